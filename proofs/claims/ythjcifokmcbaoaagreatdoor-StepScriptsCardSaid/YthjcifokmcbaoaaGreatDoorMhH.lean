/- Laws and contracts on which the statement rests, part H: each text says what it proves, and its conditions. -/
import Derived.Test.YthjcifokmcbaoaaGreatDoorMhG
import Derived.Laws.StructEq
import Derived.Deep.RegionHeld3
import Derived.Deep.Slices
import Derived.Deep.Fields
import Derived.ChangeSame
import Derived.Carry
import Derived.Test.YthjcifokmcbaoaaGreatDoorMgB
import Derived.Lib.SmallJoins
import Derived.Deep.Strs
import Derived.ArgAppend
import Derived.Laws.IdiomStrings
import Derived.Laws.CopyRow
import Derived.Laws.CopyOwn
import Derived.Laws.IdiomCopy
import Derived.Laws.MakeOwn
/- Two pairs held against each other; law 16's same. Conditions: lists of at most 4294967295 pairs. -/
namespace Go.Proofs.YthjcifokmcbaoaaGreatDoor.st
open Go.ChangeShapes Go.WideShapes Go.ChangeAt Go.RowKit gl ls

theorem prFields : (Tryz.prog.fieldsOf 57).toList.map (fun f => (decide (f.name ≠ "_"), f.type, f.offset)) = [(true, 9, 0), (true, 9, 1), (true, 9, 2)] := by kernel_rfl
theorem three_fields {l : List Field} {t0 t1 t2 : TypeId} (h : l.map (fun f => (decide (f.name ≠ "_"), f.type, f.offset)) = [(true, t0, 0), (true, t1, 1), (true, t2, 2)]) :
    ∃ f0 f1 f2 : Field, l = [f0, f1, f2] ∧ f0.name ≠ "_" ∧ f0.type = t0 ∧ f0.offset = 0 ∧ f1.name ≠ "_" ∧ f1.type = t1 ∧ f1.offset = 1 ∧ f2.name ≠ "_" ∧ f2.type = t2 ∧ f2.offset = 2 := by
  obtain ⟨f0, r0, rfl, h0, h⟩ := List.map_eq_cons_iff.1 h
  obtain ⟨f1, r1, rfl, h1, h⟩ := List.map_eq_cons_iff.1 h
  obtain ⟨f2, r2, rfl, h2, h⟩ := List.map_eq_cons_iff.1 h
  obtain rfl := List.map_eq_nil_iff.1 h
  simp only [Prod.mk.injEq, decide_eq_true_eq] at h0 h1 h2
  exact ⟨f0, f1, f2, rfl, h0.1, h0.2.1, h0.2.2, h1.1, h1.2.1, h1.2.2, h2.1, h2.2.1, h2.2.2⟩
set_option maxRecDepth 100000 in
theorem neq_pr (a b c a2 b2 c2 : ByteArray) (w : World) :
    (binOp .neq 57 (.agg #[.string a, .string b, .string c]) (.agg #[.string a2, .string b2, .string c2])).run Tryz.prog w = .ok (.bool (!((a.toList == a2.toList) && ((b.toList == b2.toList) && (c.toList == c2.toList))))) w := by
  have hs : Tryz.prog.underlying 9 = some .string := Tryz.underlying9
  have hc : Tryz.prog.cellsOf 9 = 1 := by kernel_rfl
  obtain ⟨f0, f1, f2, hf, n0, t0, o0, n1, t1, o1, n2', t2, o2⟩ := three_fields prFields
  rw [run_neq_struct, run_equalIn_struct w 9999 57 _ _ Tryz.underlying57 (by kernel_rfl), hf]
  simp only [Op.eqFields, n0, n1, n2', t0, t1, t2, o0, o1, o2, ne_eq, not_false_eq_true, if_true]
  cases h1 : (a.toList == a2.toList) <;> cases h2 : (b.toList == b2.toList) <;> cases h3 : (c.toList == c2.toList) <;> simp [go_sem, part, hs, h1, h2, h3]
  all_goals trace_state
set_option maxRecDepth 100000 in
theorem eql_pr (a b c a2 b2 c2 : ByteArray) (w : World) :
    (binOp .eql 57 (.agg #[.string a, .string b, .string c]) (.agg #[.string a2, .string b2, .string c2])).run Tryz.prog w = .ok (.bool ((a.toList == a2.toList) && ((b.toList == b2.toList) && (c.toList == c2.toList)))) w := by
  have hs : Tryz.prog.underlying 9 = some .string := Tryz.underlying9
  have hc : Tryz.prog.cellsOf 9 = 1 := by kernel_rfl
  obtain ⟨f0, f1, f2, hf, n0, t0, o0, n1, t1, o1, n2', t2, o2⟩ := three_fields prFields
  rw [run_eql_struct, run_equalIn_struct w 9999 57 _ _ Tryz.underlying57 (by kernel_rfl), hf]
  simp only [Op.eqFields, n0, n1, n2', t0, t1, t2, o0, o1, o2, ne_eq, not_false_eq_true, if_true]
  cases h1 : (a.toList == a2.toList) <;> cases h2 : (b.toList == b2.toList) <;> cases h3 : (c.toList == c2.toList) <;> simp [go_sem, part, hs, h1, h2, h3]
  all_goals trace_state
theorem pr_same (x y : Pr) (h : x = y) : (!(((B x.table).toList == (B y.table).toList) && (((B x.key).toList == (B y.key).toList) && ((B x.value).toList == (B y.value).toList)))) = false := by
  subst h
  simp
set_option maxHeartbeats 2000000 in
set_option maxRecDepth 100000 in
theorem same_any (p p' : Option Addr) (m m' c c' : Nat) (l l' : List Pr) (hl : m ≤ 4294967295) (hl' : m' ≤ 4294967295) (w : World) (h : Prs w (.slice p m c) l) (h' : Prs w (.slice p' m' c') l') :
    Calls Tryz.prog 37 #[.slice p m c, .slice p' m' c'] w fun e w' => ∃ r : Bool, e = .returned (.bool r) ∧ (l = l' → r = true) ∧ ∃ q, w' = w.drewN q := by
  obtain ⟨hlen, hmc, hptr⟩ := h.ptr
  obtain ⟨hlen', hmc', hptr'⟩ := h'.ptr
  have HS := Lib.hid h
  have HS' := Lib.hid h'
  have Hlen := Lib.hid hlen
  have Hlen' := Lib.hid hlen'
  have Hptr := Lib.hid hptr
  have Hptr' := Lib.hid hptr'
  clear h h' hlen hlen' hptr hptr'
  by_cases hmm : m = m'
  · subst hmm
    go_enter Tryz.func37, Tryz.ntmps37
    go_wp2_with fail
    go_loopw [5] (fun i wr => ∃ j q : Nat, j ≤ m ∧ i = .int .i64 j ∧ wr = w.drewN q) (fun i _ => m - (intOf i).toNat)
    case atStart => exact ⟨0, 0, by omega, rfl, rfl⟩
    case round =>
      obtain ⟨j, q, hj, rfl, rfl⟩ := hrel
      by_cases hlt : j < m
      · obtain ⟨b, o, rfl, hbl⟩ := Hptr.out (by omega)
        obtain ⟨b', o', rfl, hbl'⟩ := Hptr'.out (by omega)
        obtain ⟨x, hx⟩ : ∃ x, l[j]? = some x := ⟨_, List.getElem?_eq_getElem (by rw [Hlen.out]; exact hlt)⟩
        obtain ⟨y, hy⟩ : ∃ y, l'[j]? = some y := ⟨_, List.getElem?_eq_getElem (by rw [Hlen'.out]; exact hlt)⟩
        obtain ⟨c0, c1, c2⟩ := prs_cells HS.out hx
        obtain ⟨d0, d1, d2⟩ := prs_cells HS'.out hy
        have hne := neq_pr (B x.table) (B x.key) (B x.value) (B y.table) (B y.key) (B y.value)
        have Hs : Hid (l = l' → (!(((B x.table).toList == (B y.table).toList) && (((B x.key).toList == (B y.key).toList) && ((B x.value).toList == (B y.value).toList)))) = false) := Lib.hid fun e => pr_same x y (by rw [e, hy] at hx; exact (Option.some.inj hx).symm)
        clear hx hy
        generalize (!(((B x.table).toList == (B y.table).toList) && (((B x.key).toList == (B y.key).toList) && ((B x.value).toList == (B y.value).toList)))) = t at *
        generalize B x.table = n1 at *
        generalize B y.table = n2 at *
        generalize B x.key = x1 at *
        generalize B y.key = x2 at *
        generalize B x.value = u1 at *
        generalize B y.value = u2 at *
        replace c0 : (w.drewN q).cell? ⟨b, o + j * 3, none⟩ = some (.string n1) := c0
        replace c1 : (w.drewN q).cell? ⟨b, o + j * 3 + 1, none⟩ = some (.string x1) := c1
        replace c2 : (w.drewN q).cell? ⟨b, o + j * 3 + 2, none⟩ = some (.string u1) := c2
        replace d0 : (w.drewN q).cell? ⟨b', o' + j * 3, none⟩ = some (.string n2) := d0
        replace d1 : (w.drewN q).cell? ⟨b', o' + j * 3 + 1, none⟩ = some (.string x2) := d1
        replace d2 : (w.drewN q).cell? ⟨b', o' + j * 3 + 2, none⟩ = some (.string u2) := d2
        generalize hq : w.drewN q = wr at *
        have Hq := Lib.hid hq
        clear hq
        cases t with
        | false =>
          go_wp2_with fail
          go_quiet (fail)
          go_wp2_with fail
          go_roundw
          case rel => exact ⟨j + 1, _, by omega, by go_num, by rw [← Hq.out, World.drewN_drewN]⟩
          case measure => simp [intOf]; omega
        | true =>
          go_wp2_with fail
          go_quiet (fail)
          go_wp2_with fail
          go_ret
          exact ⟨false, rfl, fun e => absurd (Hs.out e) (by simp), _, by rw [← Hq.out, World.drewN_drewN]⟩
      · obtain rfl : j = m := by omega
        go_wp2_with fail
        go_ret
        exact ⟨true, rfl, fun _ => rfl, q, rfl⟩
  · have hmm' : ((m : Int) != (m' : Int)) = true := by simp; omega
    have hne : l ≠ l' := by rintro rfl; exact hmm (by rw [← Hlen.out, ← Hlen'.out])
    have Hne := Lib.hid hne
    clear hmm hne
    go_enter Tryz.func37, Tryz.ntmps37
    go_wp2_with fail
    go_ret
    exact ⟨false, rfl, fun e => absurd e Hne.out, 0, rfl⟩
end Go.Proofs.YthjcifokmcbaoaaGreatDoor.st
/- law 16: awake returns true. Condition: the listed variables hold what the program's text lays. -/
namespace Go.Proofs.YthjcifokmcbaoaaGreatDoor.st
open Go.ChangeShapes Go.WideShapes Go.ChangeAt Go.RowKit gl ls

def awL : List Pr := [⟨[97], [107], [49]⟩, ⟨[98], [107], [50]⟩]
def awS1 : Sp := ⟨6, [98], [107], [106], []⟩
def awS2 : Sp := ⟨4, [97], [], [98], []⟩
def awS3 : Sp := ⟨5, [98], [], [], [100, 111, 117, 98, 108, 101]⟩
def awR1 : List Pr := [⟨[97], [107], [49]⟩, ⟨[98], [106], [50]⟩, ⟨[98], [107], [50]⟩]
def awR3 : List Pr := [⟨[97], [107], [49]⟩, ⟨[98], [107], [52]⟩]
theorem aw1 : applyL awL awS1 = (awR1, 0) := by kernel_rfl
theorem aw2 : applyL awL awS2 = ([], 161) := by kernel_rfl
theorem aw3 : applyL awL awS3 = (awR3, 0) := by kernel_rfl
theorem aw4 : callL [116, 114, 105, 109] [32, 97, 32, 98, 32] = ([97, 32, 98], 0) := by kernel_rfl
theorem aw5 : callL [85, 112, 112, 101, 114] [97] = ([], 160) := by kernel_rfl
theorem aw6 : rightL ⟨2, [97], [], [], []⟩ = true := by kernel_rfl
theorem aw7 : rightL ⟨2, [97], [], [], [120]⟩ = false := by kernel_rfl
theorem awSz : ∀ x ∈ awL, PrSz x := by
  intro x hx
  simp only [awL, List.mem_cons, List.not_mem_nil, or_false] at hx
  rcases hx with rfl | rfl <;> exact ⟨by decide, by decide, by decide⟩
theorem aw_prs {w wA : World} (hA : wA = w.alloc (.cells #[.string ⟨#[97]⟩, .string ⟨#[107]⟩, .string ⟨#[49]⟩, .string ⟨#[98]⟩, .string ⟨#[107]⟩, .string ⟨#[50]⟩] 57)) : Prs wA (.slice (some ⟨w.heap.size, 0, none⟩) 2 2) awL := by
  have h2 := heap_alloc_new w (.cells #[.string ⟨#[97]⟩, .string ⟨#[107]⟩, .string ⟨#[49]⟩, .string ⟨#[98]⟩, .string ⟨#[107]⟩, .string ⟨#[50]⟩] 57)
  rw [← hA] at h2
  exact rw.rw_lit prC_len (l := awL) h2 rfl
set_option maxHeartbeats 4000000 in
set_option maxRecDepth 100000 in
theorem awake_any (w : World) (hS : Slo w) : Calls Tryz.prog 26 #[] w fun e w' => e = .returned (.bool true) ∧ Below w.heap.size w w' := by
  obtain ⟨wA, hA⟩ : ∃ wA, wA = w.alloc (.cells #[.string ⟨#[97]⟩, .string ⟨#[107]⟩, .string ⟨#[49]⟩, .string ⟨#[98]⟩, .string ⟨#[107]⟩, .string ⟨#[50]⟩] 57) := ⟨_, rfl⟩
  have hP := aw_prs hA
  have hbA : Below w.heap.size w wA := by rw [hA]; exact (Below.refl _ _).alloc (Nat.le_refl _) _
  have HSl := Lib.hid fun (W : World) (hb : Below wA.heap.size wA W) => (hS.later hbA).later hb
  have H1 := Lib.hid fun (W : World) (hb : Below wA.heap.size wA W) => Apply_any _ 2 2 awL awS1 (by omega) awSz ⟨by decide, by decide, by decide, by decide⟩ W (HSl.out W hb) (hP.later hb)
  have H2 := Lib.hid fun (W : World) (hb : Below wA.heap.size wA W) => Apply_any _ 2 2 awL awS2 (by omega) awSz ⟨by decide, by decide, by decide, by decide⟩ W (HSl.out W hb) (hP.later hb)
  have H3 := Lib.hid fun (W : World) (hb : Below wA.heap.size wA W) => Apply_any _ 2 2 awL awS3 (by omega) awSz ⟨by decide, by decide, by decide, by decide⟩ W (HSl.out W hb) (hP.later hb)
  have H4 := Lib.hid fun (W : World) (hb : Below wA.heap.size wA W) => Call_any (B [116, 114, 105, 109]) (B [32, 97, 32, 98, 32]) W (HSl.out W hb)
  have H5 := Lib.hid fun (W : World) (hb : Below wA.heap.size wA W) => Call_any (B [85, 112, 112, 101, 114]) (B [97]) W (HSl.out W hb)
  have H6 := Lib.hid fun (W : World) (hb : Below wA.heap.size wA W) => right_sp ⟨2, [97], [], [], []⟩ ⟨by decide, by decide, by decide, by decide⟩ W (HSl.out W hb)
  have H7 := Lib.hid fun (W : World) (hb : Below wA.heap.size wA W) => right_sp ⟨2, [97], [], [], [120]⟩ ⟨by decide, by decide, by decide, by decide⟩ W (HSl.out W hb)
  rw [aw1] at H1
  rw [aw2] at H2
  rw [aw3] at H3
  simp only [aw4, callV] at H4
  simp only [aw5, callV] at H5
  rw [aw6] at H6
  rw [aw7] at H7
  have HA := Lib.hid hA
  have HbA := Lib.hid hbA
  have Q1 : Hid (∀ W : World, (binOp .eql 57 (.agg #[.string ⟨#[98]⟩, .string ⟨#[106]⟩, .string ⟨#[50]⟩]) (.agg #[.string ⟨#[98]⟩, .string ⟨#[106]⟩, .string ⟨#[50]⟩])).run Tryz.prog W = .ok (.bool true) W) := Lib.hid fun W => by rw [eql_pr]; simp
  clear hA hbA hP hS
  go_enter Tryz.func26, Tryz.ntmps26
  go_wp2_with fail
  rw [← HA.out]
  refine (H1.out _ (Below.refl _ _)).mono ?_
  rintro e w1 ⟨⟨v1, rfl, h1⟩, hb1⟩
  obtain ⟨p1, c1, hv1⟩ := h1.form
  change v1 = .slice p1 3 c1 at hv1
  subst hv1
  obtain ⟨b1, o1, rfl, _⟩ := (h1.rw prC_len).ptr.2.2 (by omega)
  have HP1 := Lib.hid (h1.rw prC_len)
  have HB1 := Lib.hid hb1
  clear h1 hb1
  go_wp2_with fail
  refine (H2.out _ HB1.out).mono ?_
  rintro e w2 ⟨⟨v2, rfl, h2⟩, hb2⟩
  obtain ⟨p2, c2, hv2⟩ := h2.form
  change v2 = .slice p2 0 c2 at hv2
  subst hv2
  have HB2 := Lib.hid (then_bel HB1.out hb2)
  have HP12 := Lib.hid (HP1.out.later hb2)
  clear h2 hb2 HP1
  go_wp2_with fail
  refine (H3.out _ HB2.out).mono ?_
  rintro e w3 ⟨⟨v3, rfl, h3⟩, hb3⟩
  obtain ⟨p3, c3, hv3⟩ := h3.form
  change v3 = .slice p3 2 c3 at hv3
  subst hv3
  obtain ⟨b3, o3, rfl, _⟩ := (h3.rw prC_len).ptr.2.2 (by omega)
  have HP3 := Lib.hid (h3.rw prC_len)
  have HB3 := Lib.hid (then_bel HB2.out hb3)
  have HP13 := Lib.hid (HP12.out.later hb3)
  clear h3 hb3 HP12
  go_wp2_with fail
  refine (H4.out _ HB3.out).mono ?_
  rintro e w4 ⟨rfl, hb4⟩
  have HB4 := Lib.hid (then_bel HB3.out hb4)
  have HD4 := Lib.hid hb4
  clear hb4
  go_wp2_with fail
  refine (H5.out _ HB4.out).mono ?_
  rintro e w5 ⟨rfl, hb5⟩
  have HB5 := Lib.hid (then_bel HB4.out hb5)
  have HD5 := Lib.hid (then_bel HD4.out hb5)
  clear hb5
  go_wp2_with fail
  refine (H6.out _ HB5.out).mono ?_
  rintro e w6 ⟨rfl, hb6⟩
  have HB6 := Lib.hid (then_bel HB5.out hb6)
  have HD6 := Lib.hid (then_bel HD5.out hb6)
  clear hb6
  go_wp2_with fail
  refine (H7.out _ HB6.out).mono ?_
  rintro e w7 ⟨rfl, hb7⟩
  have HB7 := Lib.hid (then_bel HB6.out hb7)
  have hd7 := then_bel HD6.out hb7
  obtain ⟨e0, e1, e2⟩ := prs_cells (HP13.out.later hd7) (j := 1) rfl
  obtain ⟨_, _, f2⟩ := prs_cells (HP3.out.later hd7) (j := 1) rfl
  simp only at e0 e1 e2 f2
  have q1 := Q1.out
  clear hb7 hd7
  go_wp2_with fail
  go_ret
  exact ⟨rfl, HbA.out.trans (HB7.out.mono HbA.out.size)⟩
end Go.Proofs.YthjcifokmcbaoaaGreatDoor.st
/- StepRights returns true. Conditions: at most 9223372036854775807 steps; the listed variables hold what the program's text lays. -/
namespace Go.Proofs.YthjcifokmcbaoaaGreatDoor.st
open Go.ChangeShapes Go.WideShapes Go.ChangeAt Go.RowKit gl ls

theorem f5_drew {w0 wp : World} {b o : Nat} {x0 x1 x2 x3 x4 : Value} (h : wp.cell? ⟨b, o, none⟩ = some x0 ∧ wp.cell? ⟨b, o + 1, none⟩ = some x1 ∧ wp.cell? ⟨b, o + 2, none⟩ = some x2 ∧ wp.cell? ⟨b, o + 3, none⟩ = some x3 ∧ wp.cell? ⟨b, o + 4, none⟩ = some x4 ∧ Hid (Below w0.heap.size w0 wp)) :
    wp.drew.cell? ⟨b, o, none⟩ = some x0 ∧ wp.drew.cell? ⟨b, o + 1, none⟩ = some x1 ∧ wp.drew.cell? ⟨b, o + 2, none⟩ = some x2 ∧ wp.drew.cell? ⟨b, o + 3, none⟩ = some x3 ∧ wp.drew.cell? ⟨b, o + 4, none⟩ = some x4 ∧ Hid (Below w0.heap.size w0 wp.drew) := ⟨h.1, h.2.1, h.2.2.1, h.2.2.2.1, h.2.2.2.2.1, Lib.hid h.2.2.2.2.2.out.drew⟩
theorem f5_of {w0 w' : World} {b o : Nat} {x0 x1 x2 x3 x4 : Value} (h0 : w0.cell? ⟨b, o, none⟩ = some x0) (h1 : w0.cell? ⟨b, o + 1, none⟩ = some x1) (h2 : w0.cell? ⟨b, o + 2, none⟩ = some x2) (h3 : w0.cell? ⟨b, o + 3, none⟩ = some x3) (h4 : w0.cell? ⟨b, o + 4, none⟩ = some x4) (hb : Below w0.heap.size w0 w') :
    w'.cell? ⟨b, o, none⟩ = some x0 ∧ w'.cell? ⟨b, o + 1, none⟩ = some x1 ∧ w'.cell? ⟨b, o + 2, none⟩ = some x2 ∧ w'.cell? ⟨b, o + 3, none⟩ = some x3 ∧ w'.cell? ⟨b, o + 4, none⟩ = some x4 ∧ Hid (Below w0.heap.size w0 w') :=
  ⟨cell_then h0 hb, cell_then h1 hb, cell_then h2 hb, cell_then h3 hb, cell_then h4 hb, Lib.hid hb⟩
theorem f5_bel {w0 wp : World} {b o : Nat} {x0 x1 x2 x3 x4 : Value} (h : wp.cell? ⟨b, o, none⟩ = some x0 ∧ wp.cell? ⟨b, o + 1, none⟩ = some x1 ∧ wp.cell? ⟨b, o + 2, none⟩ = some x2 ∧ wp.cell? ⟨b, o + 3, none⟩ = some x3 ∧ wp.cell? ⟨b, o + 4, none⟩ = some x4 ∧ Hid (Below w0.heap.size w0 wp)) : Hid (Below w0.heap.size w0 wp) := h.2.2.2.2.2
set_option maxHeartbeats 4000000 in
set_option maxRecDepth 100000 in
theorem stepRights_any (p : Option Addr) (c : Nat) (l : List Sp) (hm : l.length ≤ 9223372036854775807) (w : World) (h : Sps w (.slice p l.length c) l) (hS : Slo w) :
    Calls Tryz.prog 4 #[.slice p l.length c] w fun e w' => e = .returned (.bool true) ∧ Below w.heap.size w w' := by
  obtain ⟨_, hmc, hptr⟩ := h.ptr
  have HW := Lib.hid (stepsWeigh_any p l.length c l hm w h)
  have HAw := Lib.hid fun (W : World) (hb : Below w.heap.size w W) => awake_any W (hS.later hb)
  have HR := Lib.hid fun (s : Sp) (hs : SpSz s) (W : World) (hb : Below w.heap.size w W) => right_sp s hs W (hS.later hb)
  have HR2 := Lib.hid fun (s : Sp) (hs : SpSz s) (W : World) => right_ref s hs W
  unfold spA at HR HR2
  have HL := Lib.hid h
  have HP := Lib.hid hptr
  obtain ⟨m, hlen⟩ : ∃ m, m = l.length := ⟨_, rfl⟩
  rw [← hlen] at hm hmc HW HL HP ⊢
  have Hlen := Lib.hid hlen
  clear h hptr hlen hS
  go_enter Tryz.func4, Tryz.ntmps4
  go_wp2_with fail
  refine HW.out.mono ?_
  rintro e w1 ⟨⟨N, rfl, hN⟩, hb1⟩
  have HB1 := Lib.hid hb1
  have HN := Lib.hid hN
  clear hb1 hN
  by_cases hbig : 2147483647 < N
  · have q1 : decide (2147483647 < N) = true := by rw [decide_eq_true_iff]; exact hbig
    go_wp2_with fail
    go_ret
    exact ⟨rfl, HB1.out⟩
  · have q1 : decide (2147483647 < N) = false := by rw [decide_eq_false_iff_not]; exact hbig
    have HZ := Lib.hid (HN.out.2.2 (by omega)).2
    go_wp2_with fail
    refine (HAw.out _ HB1.out).mono ?_
    rintro e w2 ⟨rfl, hb2⟩
    have HB2 := Lib.hid (then_bel HB1.out hb2)
    clear hb2
    go_wp2_with fail
    go_loopw [4] (fun i wr => ∃ k : Nat, k ≤ m ∧ i = .int .i64 k ∧ Hid (Below w.heap.size w wr)) (fun i _ => m - (intOf i).toNat)
    case atStart => exact ⟨0, by omega, rfl, HB2⟩
    case round =>
      obtain ⟨k, hk, rfl, Hb⟩ := hrel
      by_cases hlt : k < m
      · obtain ⟨b, o, rfl, hbl⟩ := HP.out (by omega)
        obtain ⟨x, hx⟩ : ∃ x, l[k]? = some x := ⟨_, List.getElem?_eq_getElem (by rw [← Hlen.out]; exact hlt)⟩
        obtain ⟨e0, e1, e2, e3, e4⟩ := sps_cells (HL.out.later Hb.out) hx
        have hki : (k : Int) < (m : Int) := by omega
        have hk5 : (0 : Int) ≤ (k : Int) := by omega
        have HQ := Lib.hid (HR.out x (HZ.out x (List.mem_of_getElem? hx)))
        have HQ2 := Lib.hid (HR2.out x (HZ.out x (List.mem_of_getElem? hx)))
        clear hx
        generalize rightL x = r at *
        generalize B x.table = y1 at *
        generalize B x.key = y2 at *
        generalize B x.to = y3 at *
        generalize B x.text = y4 at *
        have HQ' := Lib.hid fun (W : World) (hb : Hid (Below wr.heap.size wr W)) => HQ.out W (Hb.out.trans (hb.out.mono Hb.out.size))
        have hSt := f5_of e0 e1 e2 e3 e4 (Below.refl _ wr)
        have qr : (r != r) = false := by simp
        go_wp2_with fail
        go_region_held3 (fun w' => w'.cell? ⟨b, o + k * 5, none⟩ = some (.int .i64 x.kind) ∧ w'.cell? ⟨b, o + k * 5 + 1, none⟩ = some (.string y1) ∧ w'.cell? ⟨b, o + k * 5 + 2, none⟩ = some (.string y2) ∧ w'.cell? ⟨b, o + k * 5 + 3, none⟩ = some (.string y3) ∧ w'.cell? ⟨b, o + k * 5 + 4, none⟩ = some (.string y4) ∧ Hid (Below wr.heap.size wr w'))
          (first | assumption | (with_reducible exact f5_drew (by assumption)))
          (first
            | ((go_at_call 27; (with_reducible refine Calls.mono (HQ'.out _ (f5_bel (by assumption))) ?_); rintro e w' ⟨rfl, hb⟩; have hS' := f5_of e0 e1 e2 e3 e4 (then_bel (f5_bel (by assumption)).out hb); clear hb))
            | ((go_at_call 28; (with_reducible refine Calls.mono (HQ2.out _) ?_); rintro e w' ⟨rfl, hb⟩; have hS' := f5_of e0 e1 e2 e3 e4 (then_bel (f5_bel (by assumption)).out hb); clear hb)))
        all_goals
          rename_i hH
          have hbH := Lib.hid hH.2.2.2.2.2.out
          clear hH hSt e0 e1 e2 e3 e4
          go_wp2_with fail
          go_roundw
          case rel => exact ⟨k + 1, by omega, by go_num, Lib.hid (Hb.out.trans (hbH.out.mono Hb.out.size))⟩
          case measure => simp [intOf]; omega
      · obtain rfl : k = m := by omega
        go_wp2_with fail
        go_ret
        exact ⟨rfl, Hb.out⟩
end Go.Proofs.YthjcifokmcbaoaaGreatDoor.st
/- An argument that is a slice of structs whose fields take one cell each, opened: each element's cells and their readings. For any program; no conditions beside those stated. -/
namespace Go.Proofs.YthjcifokmcbaoaaGreatDoor
open Go.ChangeShapes Go.WideShapes Go.Deep Go.RowKit
section
variable {H : Type} {enc : TypeId × Value → H} {P : Program} {w : World} {base : Nat} {spare : Nat → Bool} {held : Bool}

/-- Each element of a slice of structs: its fields' cells, read. -/
theorem open_rows {t e : TypeId} {fs : Array Field} {v : Value} {d : DataW H} {ps : List MemPlace} (ht : P.underlying t = some (.slice e)) (he : P.underlying e = some (.struct fs))
    (hone : oneCellFields P fs = true) (hC : P.cellsOf e = fs.size) (h : DataW.Trod enc P w base spare held t v d ps) (hv : v.cells.toList = [v]) :
    v = .slice none 0 0 ∨ ∃ (a : Addr) (len cap : Nat), v = .slice (some a) len cap ∧ len ≤ cap ∧ cap ≤ maxLen ∧
      ∀ i, i < len → ∀ (j : Nat) (f : Field), fs[j]? = some f → ∃ (u : Value) (y : DataW H × List MemPlace) (n : Nat), w.cell? (a.add (i * fs.size + j)) = some u ∧ DataW.trod enc P w base spare held n f.type [u] = some y := by
  obtain ⟨fuel, hf⟩ := h
  rw [hv] at hf
  rcases open_slice ht hf with ⟨h0, _⟩ | ⟨a, len, cap, m, n, D, Pl, hcs, hb, hl, hm, hmm, hx, hi⟩
  · simp only [List.cons.injEq, and_true] at h0
    exact .inl h0
  · simp only [List.cons.injEq, and_true] at hcs
    refine .inr ⟨a, len, cap, hcs, hl, hm, fun i him j f hj => ?_⟩
    have him' : i < m := by rw [hmm]; split <;> omega
    obtain ⟨cs', hc, ht'⟩ := hi i him'
    rw [hC] at hc
    obtain ⟨ys, n', hn', hy, hlen, hyl, hf'⟩ := DataW.trod_struct he ht'
    obtain ⟨_, hcl, hat⟩ := World.cells?_some hc
    obtain ⟨ho, hk⟩ := hone_of hone j f hj
    have hjl : j < fs.size := (Array.getElem?_eq_some_iff.1 hj).1
    have hcell := hat j hjl
    have h1 := hf' j f hj
    rw [ho, hk] at h1
    have hone' : (cs'.drop j).take 1 = [cs'[j]'(by omega)] := by
      rw [List.drop_eq_getElem_cons (by omega)]
      rfl
    rw [hone'] at h1
    have hys : ys[j]? = some (ys[j]'(by omega)) := List.getElem?_eq_getElem (by omega)
    exact ⟨_, _, n', by rw [← Go.Deep.add_add, hcell, List.getElem?_eq_getElem (by omega)], h1.trans hys⟩
end

/-- A cell that holds something lies in no view. -/
theorem spot_none {w : World} {a : Addr} {v : Value} (h : w.cell? a = some v) : a.spot = none := by
  unfold World.cell? at h
  split at h
  · split at h
    · cases h
    · rename_i hs
      simpa using hs
  · cases h
theorem add_none {b off k : Nat} : (⟨b, off, none⟩ : Addr).add k = ⟨b, off + k, none⟩ := by
  unfold Addr.add
  split
  · rename_i h; revert h; simp
  · rfl
end Go.Proofs.YthjcifokmcbaoaaGreatDoor
/- Arguments that are pairs and steps, opened: their texts and numbers, and their cells in memory. No conditions. -/
namespace Go.Proofs.YthjcifokmcbaoaaGreatDoor.st
open Go.ChangeShapes Go.WideShapes Go.Deep Go.RowKit gl

theorem wf_b {n : Int} (h : (Lit.int .i64 n).wf = true) : -9223372036854775808 ≤ n ∧ n ≤ 9223372036854775807 := by
  have := h
  simp [Lit.wf, IntKind.min, IntKind.max, IntKind.signed, IntKind.bits] at this
  exact this
def PrOk (x : Pr) : Prop := x.table.length ≤ 9223372036854775807 ∧ x.key.length ≤ 9223372036854775807 ∧ x.value.length ≤ 9223372036854775807
def SpOk (x : Sp) : Prop := (-9223372036854775808 ≤ x.kind ∧ x.kind ≤ 9223372036854775807) ∧ x.table.length ≤ 9223372036854775807 ∧ x.key.length ≤ 9223372036854775807 ∧ x.to.length ≤ 9223372036854775807 ∧ x.text.length ≤ 9223372036854775807
def PairsOk (W : World) (p : Option Addr) (cap : Nat) (l : List Pr) : Prop := Prs W (.slice p l.length cap) l ∧ ∀ x ∈ l, PrOk x
def StepsOk (W : World) (p : Option Addr) (cap : Nat) (l : List Sp) : Prop := Sps W (.slice p l.length cap) l ∧ ∀ x ∈ l, SpOk x

instance : Inhabited Sp := ⟨⟨0, [], [], [], []⟩⟩
theorem pairs_of {H : Type} {enc : TypeId × Value → H} {W : World} {v : Value} {d : DataW H} {ps : List MemPlace} (h : DataW.Trod enc Tryz.prog W 0 (fun _ => true) true 44 v d ps) (hv : v.cells.toList = [v]) :
    ∃ p cap l, v = .slice p l.length cap ∧ l.length ≤ maxLen ∧ PairsOk W p cap l := by
  rcases open_rows Tryz.underlying44 Tryz.underlying57 (by kernel_rfl) (by kernel_rfl) h hv with h | ⟨a, len, cap, hs, hl, hm, hat⟩
  · exact ⟨none, 0, [], h, Nat.zero_le _, ⟨none, 0, rfl, Nat.le_refl _, .inl rfl⟩, fun x hx => by cases hx⟩
  · have hall : ∀ i, i < len → ∃ x : Pr, PrOk x ∧ ∃ b off, a = ⟨b, off, none⟩ ∧ b < W.heap.size ∧ ∀ (j : Nat) (u : Value), (prC x)[j]? = some u → W.cell? ⟨b, off + (i * 3 + j), none⟩ = some u := by
      intro i hi
      obtain ⟨u0, y0, n0, c0, t0⟩ := hat i hi 0 _ rfl
      obtain ⟨u1, y1, n1, c1, t1⟩ := hat i hi 1 _ rfl
      obtain ⟨u2, y2, n2, c2, t2⟩ := hat i hi 2 _ rfl
      obtain ⟨s0, e0, _, w0⟩ := DataW.trod_string Tryz.underlying9 t0
      obtain ⟨s1, e1, _, w1⟩ := DataW.trod_string Tryz.underlying9 t1
      obtain ⟨s2, e2, _, w2⟩ := DataW.trod_string Tryz.underlying9 t2
      simp only [List.cons.injEq, and_true] at e0 e1 e2
      subst e0 e1 e2
      obtain ⟨v0, y0', n0', z, _⟩ := hat 0 (by omega) 0 _ rfl
      have hsp : a.spot = none := by
        have := spot_none z
        simpa [Addr.add] using this
      obtain ⟨b, off, sp⟩ := a
      simp only at hsp
      subst hsp
      unfold maxLen at w0 w1 w2
      rw [add_none] at c0 c1 c2
      change W.cell? ⟨b, off + (i * 3 + 0), none⟩ = _ at c0
      change W.cell? ⟨b, off + (i * 3 + 1), none⟩ = _ at c1
      change W.cell? ⟨b, off + (i * 3 + 2), none⟩ = _ at c2
      refine ⟨⟨s0.data.toList, s1.data.toList, s2.data.toList⟩, ⟨by simp only [toList_len]; omega, by simp only [toList_len]; omega, by simp only [toList_len]; omega⟩, b, off, rfl, World.block_lt_of_cell? _ _ c0, fun j u hu => ?_⟩
      match j, hu with
      | 0, hu => obtain rfl := Option.some.inj hu; simp only [B_of]; exact c0
      | 1, hu => obtain rfl := Option.some.inj hu; simp only [B_of]; exact c1
      | 2, hu => obtain rfl := Option.some.inj hu; simp only [B_of]; exact c2
    obtain ⟨f, hf⟩ := Deep.choose_lt hall
    refine ⟨some a, cap, (List.range len).map f, by simpa using hs, by simp; omega, ⟨some a, cap, rfl, by simpa using hl, ?_⟩, fun x hx => ?_⟩
    · by_cases h0 : len = 0
      · subst h0
        exact .inl rfl
      · obtain ⟨_, b, off, rfl, hb, _⟩ := hf 0 (by omega)
        refine .inr ⟨b, off, rfl, hb, fun j x hx i u hu => ?_⟩
        simp only [List.getElem?_map, Option.map_eq_some_iff] at hx
        obtain ⟨k, hk, rfl⟩ := hx
        obtain ⟨hk1, rfl⟩ := List.getElem?_eq_some_iff.1 hk
        simp only [List.getElem_range] at hu
        obtain ⟨_, b', off', he, _, h2⟩ := hf j (by simpa using hk1)
        cases he
        exact h2 i u hu
    · obtain ⟨i, hi, rfl⟩ := List.mem_map.1 hx
      exact (hf i (List.mem_range.1 hi)).1
theorem steps_of {H : Type} {enc : TypeId × Value → H} {W : World} {v : Value} {d : DataW H} {ps : List MemPlace} (h : DataW.Trod enc Tryz.prog W 0 (fun _ => true) true 34 v d ps) (hv : v.cells.toList = [v]) :
    ∃ p cap l, v = .slice p l.length cap ∧ l.length ≤ maxLen ∧ StepsOk W p cap l := by
  rcases open_rows Tryz.underlying34 Tryz.underlying42 (by kernel_rfl) (by kernel_rfl) h hv with h | ⟨a, len, cap, hs, hl, hm, hat⟩
  · exact ⟨none, 0, [], h, Nat.zero_le _, ⟨none, 0, rfl, Nat.le_refl _, .inl rfl⟩, fun x hx => by cases hx⟩
  · have hall : ∀ i, i < len → ∃ x : Sp, SpOk x ∧ ∃ b off, a = ⟨b, off, none⟩ ∧ b < W.heap.size ∧ ∀ (j : Nat) (u : Value), (spC x)[j]? = some u → W.cell? ⟨b, off + (i * 5 + j), none⟩ = some u := by
      intro i hi
      obtain ⟨u0, y0, n0, c0, t0⟩ := hat i hi 0 _ rfl
      obtain ⟨u1, y1, n1, c1, t1⟩ := hat i hi 1 _ rfl
      obtain ⟨u2, y2, n2, c2, t2⟩ := hat i hi 2 _ rfl
      obtain ⟨u3, y3, n3, c3, t3⟩ := hat i hi 3 _ rfl
      obtain ⟨u4, y4, n4, c4, t4⟩ := hat i hi 4 _ rfl
      obtain ⟨z0, e0, _, w0⟩ := DataW.trod_int Tryz.underlying3 t0
      obtain ⟨s1, e1, _, w1⟩ := DataW.trod_string Tryz.underlying9 t1
      obtain ⟨s2, e2, _, w2⟩ := DataW.trod_string Tryz.underlying9 t2
      obtain ⟨s3, e3, _, w3⟩ := DataW.trod_string Tryz.underlying9 t3
      obtain ⟨s4, e4, _, w4⟩ := DataW.trod_string Tryz.underlying9 t4
      simp only [List.cons.injEq, and_true] at e0 e1 e2 e3 e4
      subst e0 e1 e2 e3 e4
      obtain ⟨v0, y0', n0', z, _⟩ := hat 0 (by omega) 0 _ rfl
      have hsp : a.spot = none := by
        have := spot_none z
        simpa [Addr.add] using this
      obtain ⟨b, off, sp⟩ := a
      simp only at hsp
      subst hsp
      have b0 := wf_b w0
      unfold maxLen at w1 w2 w3 w4
      rw [add_none] at c0 c1 c2 c3 c4
      change W.cell? ⟨b, off + (i * 5 + 0), none⟩ = _ at c0
      change W.cell? ⟨b, off + (i * 5 + 1), none⟩ = _ at c1
      change W.cell? ⟨b, off + (i * 5 + 2), none⟩ = _ at c2
      change W.cell? ⟨b, off + (i * 5 + 3), none⟩ = _ at c3
      change W.cell? ⟨b, off + (i * 5 + 4), none⟩ = _ at c4
      refine ⟨⟨z0, s1.data.toList, s2.data.toList, s3.data.toList, s4.data.toList⟩, ⟨b0, by simp only [toList_len]; omega, by simp only [toList_len]; omega, by simp only [toList_len]; omega, by simp only [toList_len]; omega⟩, b, off, rfl, World.block_lt_of_cell? _ _ c0, fun j u hu => ?_⟩
      match j, hu with
      | 0, hu => obtain rfl := Option.some.inj hu; exact c0
      | 1, hu => obtain rfl := Option.some.inj hu; simp only [B_of]; exact c1
      | 2, hu => obtain rfl := Option.some.inj hu; simp only [B_of]; exact c2
      | 3, hu => obtain rfl := Option.some.inj hu; simp only [B_of]; exact c3
      | 4, hu => obtain rfl := Option.some.inj hu; simp only [B_of]; exact c4
    obtain ⟨f, hf⟩ := Deep.choose_lt hall
    refine ⟨some a, cap, (List.range len).map f, by simpa using hs, by simp; omega, ⟨some a, cap, rfl, by simpa using hl, ?_⟩, fun x hx => ?_⟩
    · by_cases h0 : len = 0
      · subst h0
        exact .inl rfl
      · obtain ⟨_, b, off, rfl, hb, _⟩ := hf 0 (by omega)
        refine .inr ⟨b, off, rfl, hb, fun j x hx i u hu => ?_⟩
        simp only [List.getElem?_map, Option.map_eq_some_iff] at hx
        obtain ⟨k, hk, rfl⟩ := hx
        obtain ⟨hk1, rfl⟩ := List.getElem?_eq_some_iff.1 hk
        simp only [List.getElem_range] at hu
        obtain ⟨_, b', off', he, _, h2⟩ := hf j (by simpa using hk1)
        cases he
        exact h2 i u hu
    · obtain ⟨i, hi, rfl⟩ := List.mem_map.1 hx
      exact (hf i (List.mem_range.1 hi)).1
theorem cSp : Tryz.prog.cellsOf 42 = 5 := by kernel_rfl
theorem cIntS : Tryz.prog.cellsOf 3 = 1 := by kernel_rfl
theorem cStrS : Tryz.prog.cellsOf 9 = 1 := by kernel_rfl
theorem arr5 {cs : Array Value} (h : cs.size = 5) : ∃ c0 c1 c2 c3 c4, cs = #[c0, c1, c2, c3, c4] := by
  obtain ⟨l⟩ := cs
  match l, h with
  | [a, b, c, d, e], _ => exact ⟨a, b, c, d, e, rfl⟩
theorem len5 {α : Type} : ∀ {l : List α}, l.length = 5 → ∃ a b c d e, l = [a, b, c, d, e]
  | [a, b, c, d, e], _ => ⟨a, b, c, d, e, rfl⟩
theorem step_of {H : Type} {enc : TypeId × Value → H} {W : World} {v : Value} {cs : Array Value} {d : DataW H} {ps : List MemPlace} (h : DataW.Trod enc Tryz.prog W 0 (fun _ => true) true 42 v d ps) (hv : v = .agg cs) (hz : cs.size = Tryz.prog.cellsOf 42) :
    ∃ (x : Sp) (_ : Unit), v = .agg #[.int .i64 x.kind, .string (B x.table), .string (B x.key), .string (B x.to), .string (B x.text)] ∧ SpOk x ∧ True := by
  subst hv
  rw [cSp] at hz
  obtain ⟨c0, c1, c2, c3, c4, rfl⟩ := arr5 hz
  obtain ⟨fuel, hf⟩ := h
  obtain ⟨xs, n, rfl, hx, hl, hxl, hall⟩ := DataW.trod_struct Tryz.underlying42 hf
  have hxl5 : xs.length = 5 := hxl
  obtain ⟨x0, x1, x2, x3, x4, rfl⟩ := len5 hxl5
  have f0 := hall 0 _ rfl
  have f1 := hall 1 _ rfl
  have f2 := hall 2 _ rfl
  have f3 := hall 3 _ rfl
  have f4 := hall 4 _ rfl
  change DataW.trod _ _ _ _ _ _ _ 3 (([c0, c1, c2, c3, c4].drop 0).take (Tryz.prog.cellsOf 3)) = _ at f0
  change DataW.trod _ _ _ _ _ _ _ 9 (([c0, c1, c2, c3, c4].drop 1).take (Tryz.prog.cellsOf 9)) = _ at f1
  change DataW.trod _ _ _ _ _ _ _ 9 (([c0, c1, c2, c3, c4].drop 2).take (Tryz.prog.cellsOf 9)) = _ at f2
  change DataW.trod _ _ _ _ _ _ _ 9 (([c0, c1, c2, c3, c4].drop 3).take (Tryz.prog.cellsOf 9)) = _ at f3
  change DataW.trod _ _ _ _ _ _ _ 9 (([c0, c1, c2, c3, c4].drop 4).take (Tryz.prog.cellsOf 9)) = _ at f4
  rw [cIntS] at f0
  rw [cStrS] at f1 f2 f3 f4
  obtain ⟨z0, e0, _, w0⟩ := DataW.trod_int Tryz.underlying3 f0
  obtain ⟨s1, e1, _, w1⟩ := DataW.trod_string Tryz.underlying9 f1
  obtain ⟨s2, e2, _, w2⟩ := DataW.trod_string Tryz.underlying9 f2
  obtain ⟨s3, e3, _, w3⟩ := DataW.trod_string Tryz.underlying9 f3
  obtain ⟨s4, e4, _, w4⟩ := DataW.trod_string Tryz.underlying9 f4
  simp at e0 e1 e2 e3 e4
  subst e0 e1 e2 e3 e4
  have b0 := wf_b w0
  unfold maxLen at w1 w2 w3 w4
  exact ⟨⟨z0, s1.data.toList, s2.data.toList, s3.data.toList, s4.data.toList⟩, (), by simp only [B_of], ⟨b0, by simp only [toList_len]; omega, by simp only [toList_len]; omega, by simp only [toList_len]; omega, by simp only [toList_len]; omega⟩, trivial⟩
end Go.Proofs.YthjcifokmcbaoaaGreatDoor.st
/- What Apply gives is short. No walk; no conditions. -/
namespace Go.Proofs.YthjcifokmcbaoaaGreatDoor.st
open Go.ChangeShapes Go.WideShapes Go.ChangeAt Go.RowKit gl ls
theorem nil_le : ([] : List UInt8).length ≤ 2147483647 := by decide
theorem word_len {x : List UInt8} (h : wordL x = true) : x.length ≤ 32 := by
  unfold wordL at h
  simp only [Bool.and_eq_true, decide_eq_true_eq] at h
  exact h.2.2
theorem may_sz {R : List Pr} (h : mayL R = true) : (∀ x ∈ R, PrSz x) ∧ R.length ≤ 500 := by
  obtain ⟨h1, h2, _⟩ := may_parts h
  refine ⟨fun x hx => ?_, h1⟩
  obtain ⟨a, b, c⟩ := h2 x hx
  have := word_len a
  have := word_len b
  exact ⟨by omega, by omega, by omega⟩
theorem out_sz {l R : List Pr} {s : Sp} {E : Int} (h : applyL l s = (R, E)) : (∀ x ∈ R, PrSz x) ∧ R.length ≤ 500 := by
  by_cases h0 : E = 0
  · have h1 : (applyL l s).2 = 0 := by rw [h]; exact h0
    have := apply_may h1
    rw [h] at this
    exact may_sz this
  · have h1 : (applyL l s).2 ≠ 0 := by rw [h]; exact h0
    have := apply_err h1
    rw [h] at this
    simp only at this
    subst this
    exact ⟨fun x hx => (by cases hx), by simp⟩
end Go.Proofs.YthjcifokmcbaoaaGreatDoor.st
/- law 16's owned returns true: lists of pairs in blocks of their own, apart from each other. Conditions: at most 2147483647 lists, and as many to be compared with them, in rows. -/
namespace Go.Proofs.YthjcifokmcbaoaaGreatDoor.st
open Go.ChangeShapes Go.WideShapes Go.ChangeAt Go.RowKit gl

def markL (i : Nat) : List UInt8 := [109, 97, 114, 107, UInt8.ofNat (i % 256), UInt8.ofNat (i / 256 % 256)]
def markC (i : Nat) : List Value := [.string ⟨#[]⟩, .string (B (markL i)), .string ⟨#[]⟩]
theorem markC_len (i : Nat) : (markC i).length = 3 := rfl
abbrev HoldQ := ls.Hold 57 3 markC
abbrev PhQ := ls.Ph 57 44 3 markC 4
abbrev GrQ := ls.Gr 57 3 markC
theorem infoPs : (Tryz.prog.info? 44).map (fun i => (i.zero, i.size, i.bytes)) = some (some (.slice none 0 0), 1, 24) := by kernel_rfl
theorem mark_add (i : Nat) : (⟨#[109, 97, 114, 107]⟩ : ByteArray) ++ (⟨#[UInt8.ofNat (i % 256), UInt8.ofNat (i / 256 % 256)]⟩ : ByteArray) = B (markL i) := by
  apply ByteArray.ext
  rfl
theorem conv2 (i : Nat) (w : World) (n : Nat) : (convert 87 9 (.slice (some ⟨w.heap.size, 0, none⟩) 2 2)).run Tryz.prog ((w.alloc (.cells #[.int .u8 ((i % 256 : Nat) : Int), .int .u8 ((i / 256 % 256 : Nat) : Int)] 5)).drewN n) = .ok (.string ⟨#[UInt8.ofNat (i % 256), UInt8.ofNat (i / 256 % 256)]⟩) ((w.alloc (.cells #[.int .u8 ((i % 256 : Nat) : Int), .int .u8 ((i / 256 % 256 : Nat) : Int)] 5)).drewN n) := by
  refine run_convert_bytes_back _ _ _ 5 ⟨w.heap.size, 0, none⟩ 2 [UInt8.ofNat (i % 256), UInt8.ofNat (i / 256 % 256)] Tryz.underlying87 Tryz.underlying5 Tryz.underlying9 fun j hj => ?_
  have h := heap_alloc_new w (.cells #[.int .u8 ((i % 256 : Nat) : Int), .int .u8 ((i / 256 % 256 : Nat) : Int)] 5)
  rw [ls.addN]
  show (w.alloc (.cells #[.int .u8 ((i % 256 : Nat) : Int), .int .u8 ((i / 256 % 256 : Nat) : Int)] 5)).cell? ⟨w.heap.size, 0 + j, none⟩ = _
  rw [cell_in h]
  have hj2 : j < 2 := hj
  match j, hj2 with
  | 0, _ => simp
  | 1, _ => simp
theorem u8_lo (i : Nat) : IntKind.u8.wrap (i : Int) = ((i % 256 : Nat) : Int) := by rw [IntKind.wrap_u8]; omega
theorem u8_hi (i : Nat) : IntKind.u8.wrap ((i : Int) / 256) = ((i / 256 % 256 : Nat) : Int) := by rw [IntKind.wrap_u8]; omega
theorem same_quiet (p p' : Option Addr) (m c c' : Nat) (l : List Pr) (hl : m ≤ 4294967295) (w : World) (h : Prs w (.slice p m c) l) (h' : Prs w (.slice p' m c') l) :
    Calls Tryz.prog 37 #[.slice p m c, .slice p' m c'] w fun e w' => e = .returned (.bool true) ∧ ∃ q, w' = w.drewN q :=
  (same_any p p' m m c c' l l hl hl w h h').mono fun e w' ⟨r, h1, h2, h3⟩ => ⟨by rw [h1, h2 rfl], h3⟩

set_option maxHeartbeats 8000000 in
set_option maxRecDepth 100000 in
theorem owned_any (B0 : Nat) (rs : List ls.LR) (lss : List (List Pr)) (n : Nat) (hn7 : n ≤ 2147483647) (hlen : rs.length = n) (hxl : lss.length = n) (gl cl gw cw : Nat) (hcl : n ≤ cl) (hcw : n ≤ cw) (w : World) (hB : B0 ≤ w.heap.size) (hH : HoldQ B0 w.heap.size w rs 0 (ls.cntAt 0 0)) (hD : ls.Dist rs) (hL : ls.LRow 44 w gl rs)
    (hSt : ∀ (i : Nat) (R : ls.LR) (l : List Pr), rs[i]? = some R → lss[i]? = some l → Prs w R.v l) (hW : ∀ (i : Nat) (l : List Pr), lss[i]? = some l → ∃ p c, w.cell? ⟨gw, i, none⟩ = some (.slice p l.length c) ∧ Prs w (.slice p l.length c) l) :
    Calls Tryz.prog 36 #[.slice (some ⟨gl, 0, none⟩) n cl, .slice (some ⟨gw, 0, none⟩) n cw] w fun e w' => e = .returned (.bool true) ∧ Below B0 w w' := by
  have HH := Lib.hid hH
  have HD := Lib.hid hD
  have HL := Lib.hid hL
  have HSt := Lib.hid hSt
  have HW := Lib.hid hW
  have Hlen := Lib.hid hlen
  have Hxl := Lib.hid hxl
  obtain ⟨i0, si, sz0, sz1, sz2⟩ := info_parts infoPr
  obtain ⟨i1, hi, hz0, hz1, hz2⟩ := info_parts infoPs
  have hgl : gl < w.heap.size := hL.lt
  clear hH hD hL hSt hW hlen hxl
  go_enter Tryz.func36, Tryz.ntmps36
  go_wp2_with fail
  go_loopw [5] (fun i wr => ∃ k q : Nat, k ≤ n ∧ i = .int .i64 k ∧ wr = w.drewN q) (fun i _ => n - (intOf i).toNat)
  case atStart => exact ⟨0, 0, by omega, rfl, rfl⟩
  case round =>
    obtain ⟨k, q, hk, rfl, rfl⟩ := hrel
    by_cases hlt : k < n
    · obtain ⟨R, hR⟩ : ∃ R, rs[k]? = some R := ⟨_, List.getElem?_eq_getElem (by rw [Hlen.out]; exact hlt)⟩
      obtain ⟨xs, hxs⟩ : ∃ xs, lss[k]? = some xs := ⟨_, List.getElem?_eq_getElem (by rw [Hxl.out]; exact hlt)⟩
      have c1 := HL.out.cell hR
      obtain ⟨pw, cc, c2, hs2⟩ := HW.out k xs hxs
      have hs1 := HSt.out k R xs hR hxs
      have hn := (HH.out k R (Nat.zero_le _) hR).1
      obtain ⟨pR, nR, cR⟩ := R
      simp only [ls.LR.v] at c1 hn hs1
      obtain ⟨hRn, hncR, _⟩ := hs1.ptr
      obtain ⟨_, hncc, _⟩ := hs2.ptr
      rw [hRn] at c2 hs2 hncc
      replace c1 : (w.drewN q).cell? ⟨gl, k, none⟩ = some (.slice pR nR cR) := c1
      replace c2 : (w.drewN q).cell? ⟨gw, k, none⟩ = some (.slice pw nR cc) := c2
      have HC := Lib.hid fun W (hq : ∃ d, W = w.drewN d) => same_quiet pR pw nR cR cc xs hn W (by obtain ⟨d, rfl⟩ := hq; exact hs1.later (drewN_bel w d)) (by obtain ⟨d, rfl⟩ := hq; exact hs2.later (drewN_bel w d))
      clear hR hxs hs1 hs2 hRn
      generalize hq : w.drewN q = wr at *
      have HQ := Lib.hid hq
      have hki : (k : Int) < (n : Int) := by omega
      have hk5 : (0 : Int) ≤ (k : Int) := by omega
      clear hq
      go_wp2_with fail
      go_quiet ((go_at_call 37; exact Calls.quiet_of (HC.out _ (by rw [← HQ.out, World.drewN_drewN]; exact ⟨_, rfl⟩))))
      go_wp2_with fail
      go_roundw
      case rel => exact ⟨k + 1, _, by omega, by go_num, by rw [← HQ.out, World.drewN_drewN]⟩
      case measure => simp [intOf]; omega
    · obtain rfl : k = n := by omega
      obtain ⟨w1, hw1⟩ : ∃ w1, w1 = w.drewN q := ⟨_, rfl⟩
      have hb1 : Below w.heap.size w w1 := by rw [hw1]; exact drewN_bel w q
      have hz1' : w1.heap.size = w.heap.size := by rw [hw1]; rfl
      have HH1 : Hid (HoldQ B0 w.heap.size w1 rs 0 (ls.cntAt 0 0)) := Lib.hid (HH.out.keep (ls.SK.of_below hb1))
      have HL1 : Hid (ls.LRow 44 w1 gl rs) := Lib.hid (HL.out.below hb1)
      have HB1 : Hid (Below B0 w w1) := Lib.hid (hb1.mono hB)
      rw [← hw1]
      clear HSt HW Hxl HH HL hb1 hw1
      go_wp2_with fail
      go_loopw [7] (fun i wr => ∃ k2 : Nat, k2 ≤ k ∧ i = .int .i64 k2 ∧ Hid (HoldQ B0 w.heap.size wr rs 0 (ls.cntAt k2 0)) ∧ Hid (ls.LRow 44 wr gl rs) ∧ Hid (Below B0 w wr)) (fun i _ => k - (intOf i).toNat)
      case atStart => exact ⟨0, by omega, rfl, HH1, HL1, HB1⟩
      case round =>
        clear HH1 HL1 HB1
        obtain ⟨k2, hk2, rfl, HHr, HLr, HBr⟩ := hrel
        by_cases hlt2 : k2 < k
        · obtain ⟨R, hR⟩ : ∃ R, rs[k2]? = some R := ⟨_, List.getElem?_eq_getElem (by rw [Hlen.out]; exact hlt2)⟩
          have HR := Lib.hid hR
          have hnr := (HHr.out k2 R (Nat.zero_le _) hR).1
          obtain ⟨pR, nR, cR⟩ := R
          simp only at hnr
          clear hR
          go_wp2_with fail
          go_loopw [8] (fun i wr => ∃ j : Nat, j ≤ nR ∧ i = .int .i64 j ∧ Hid (HoldQ B0 w.heap.size wr rs 0 (ls.cntAt k2 j)) ∧ Hid (ls.LRow 44 wr gl rs) ∧ Hid (Below B0 w wr)) (fun i _ => nR - (intOf i).toNat)
          case atStart => exact ⟨0, by omega, rfl, HHr, HLr, HBr⟩
          case round =>
            clear HHr HLr HBr
            obtain ⟨j, hj, rfl, HHr, HLr, HBr⟩ := hrel
            have c1 := HLr.out.cell HR.out
            have hglr : gl < wr.heap.size := HLr.out.lt
            simp only at c1
            by_cases hltj : j < nR
            · obtain ⟨g, cs, hpR, hgB, hgM, hsb, hcs, hnc⟩ : ∃ g cs, pR = some ⟨g, 0, none⟩ ∧ B0 ≤ g ∧ g < w.heap.size ∧ ls.SB 57 wr g cs ∧ cR * 3 ≤ cs.size ∧ nR ≤ cR := by
                obtain ⟨_, h2, h3⟩ := HHr.out k2 _ (Nat.zero_le _) HR.out
                rcases h3 with ⟨_, h, _⟩ | ⟨g, cs, h1, h2', h3, h4, h5, _⟩
                · simp only at h; omega
                · exact ⟨g, cs, h1, h2', h3, h4, h5, h2⟩
              subst hpR
              have hgr : g < wr.heap.size := by have := HBr.out.size; omega
              have hat : ∀ i, i < 3 → wr.cell? ⟨g, j * 3 + i, none⟩ = some (cs[j * 3 + i]?.getD undef) := fun i hi => by
                rw [cell_in hsb, Array.getElem?_eq_getElem (by omega)]
                rfl
              have d0 := hat 0 (by omega)
              have d1 := hat 1 (by omega)
              have d2 := hat 2 (by omega)
              have e0 : wr.frozen? ⟨g, j * 3, none⟩ = false := free_in hsb
              have e1 : wr.frozen? ⟨g, j * 3 + 1, none⟩ = false := free_in hsb
              have e2 : wr.frozen? ⟨g, j * 3 + 2, none⟩ = false := free_in hsb
              rw [Nat.add_zero] at d0
              generalize cs[j * 3]?.getD undef = o0 at d0
              generalize cs[j * 3 + 1]?.getD undef = o1 at d1
              generalize cs[j * 3 + 2]?.getD undef = o2 at d2
              have HX : Hid (HoldQ B0 w.heap.size (wr.setCells g (j * 3) (markC k2)) rs 0 (ls.cntAt k2 (j + 1)) ∧ ls.LRow 44 (wr.setCells g (j * 3) (markC k2)) gl rs ∧ Below B0 w (wr.setCells g (j * 3) (markC k2))) := Lib.hid
                ⟨HHr.out.mark (markC_len _) HD.out HR.out rfl hltj, HLr.out.set (by decide) hsb, ls.below_setCells hgB _ _ _ HBr.out⟩
              clear hat hsb hcs
              have hki : (k2 : Int) < (k : Int) := by omega
              have hk5 : (0 : Int) ≤ (k2 : Int) := by omega
              have hji : (j : Int) < (nR : Int) := by omega
              have hj5 : (0 : Int) ≤ (j : Int) := by omega
              have hu1 := u8_lo k2
              have hu2 := u8_hi k2
              have hcv : (convert 87 9 (.slice (some ⟨wr.heap.size, 0, none⟩) 2 2)).run Tryz.prog (wr.alloc (.cells #[.int .u8 ((k2 % 256 : Nat) : Int), .int .u8 ((k2 / 256 % 256 : Nat) : Int)] 5)).drew = .ok (.string ⟨#[UInt8.ofNat (k2 % 256), UInt8.ofNat (k2 / 256 % 256)]⟩) (wr.alloc (.cells #[.int .u8 ((k2 % 256 : Nat) : Int), .int .u8 ((k2 / 256 % 256 : Nat) : Int)] 5)).drew := conv2 k2 wr 1
              have hadd : ∀ wx : World, (Op.stringOp .add ⟨#[109, 97, 114, 107]⟩ ⟨#[UInt8.ofNat (k2 % 256), UInt8.ofNat (k2 / 256 % 256)]⟩).run Tryz.prog wx = .ok (.string (B (markL k2))) wx := fun wx => by
                rw [← mark_add]
                exact run_string_add_sum wx _ _ (by simp [ByteArray.size])
              generalize k2 % 256 = a1 at hu1 hcv hadd
              generalize k2 / 256 % 256 = a2 at hu2 hcv hadd
              have HX3 : ∀ X : Obj, Hid (HoldQ B0 w.heap.size (((wr.setCells g (j * 3) (markC k2)).alloc X).drew) rs 0 (ls.cntAt k2 (j + 1)) ∧ ls.LRow 44 (((wr.setCells g (j * 3) (markC k2)).alloc X).drew) gl rs ∧ Below B0 w (((wr.setCells g (j * 3) (markC k2)).alloc X).drew)) := fun X => Lib.hid (by
                have hb2 : Below (wr.setCells g (j * 3) (markC k2)).heap.size (wr.setCells g (j * 3) (markC k2)) (((wr.setCells g (j * 3) (markC k2)).alloc X).drew) := ((Below.refl _ _).alloc (Nat.le_refl _) _).drew
                exact ⟨HX.out.1.keep (ls.SK.of_below hb2), HX.out.2.1.below hb2, HX.out.2.2.trans (hb2.mono (by have := HX.out.2.2.size; omega))⟩)
              clear HX
              go_wp2_with fail
              go_region_law (fail)
              all_goals
                clear hcv hadd hu1 hu2
                have HX4 := HX3 (Obj.cells #[Value.int IntKind.u8 ↑a1, Value.int IntKind.u8 ↑a2] 5)
                clear HX3
                go_wp2_with fail
                go_roundw
                case rel => exact ⟨j + 1, by omega, by go_num, Lib.hid HX4.out.1, Lib.hid HX4.out.2.1, Lib.hid HX4.out.2.2⟩
                case measure => simp [intOf]; omega
            · obtain rfl : j = nR := by omega
              go_wp2_with fail
              go_roundw
              case rel => exact ⟨k2 + 1, by omega, by go_num, Lib.hid (HHr.out.next (fun S hS => by rw [HR.out] at hS; obtain rfl := Option.some.inj hS; exact Nat.le_refl _)), HLr, HBr⟩
              case measure => simp [intOf]; omega
        · obtain rfl : k2 = k := by omega
          obtain ⟨w3, hw3⟩ : ∃ w3, w3 = wr := ⟨_, rfl⟩
          have hz3 : w.heap.size ≤ w3.heap.size := by rw [hw3]; exact HBr.out.size
          have HP3 : Hid (PhQ B0 w3.heap.size rs gl w w3 0 0 (.slice none 0 0) []) := Lib.hid (by
            subst hw3
            exact ⟨⟨rfl, .inl ⟨rfl, rfl⟩⟩, fun t v h => by simp at h, fun t g n c h => by simp at h, by rw [Hlen.out]; exact HHr.out.upM HBr.out.size, HLr.out, HBr.out, Nat.le_refl _⟩)
          rw [← hw3]
          clear HHr HLr HBr hw3
          have hB3 : B0 ≤ w3.heap.size := by omega
          have hgl3 : gl < w3.heap.size := by omega
          go_wp2_with fail
          go_loopw [9, 10] (fun al i wr => ∃ (k mm : Nat) (pa : Option Addr) (ca : Nat) (vals : List Value), k ≤ k2 ∧ i = .int .i64 k ∧ mm = 4 * k ∧ al = .slice pa mm ca ∧ Hid (PhQ B0 w3.heap.size rs gl w wr k mm (.slice pa mm ca) vals)) (fun _ i _ => k2 - (intOf i).toNat)
          case atStart => exact ⟨0, 0, none, 0, [], by omega, rfl, rfl, rfl, HP3⟩
          case round =>
            clear HP3
            obtain ⟨k, mm, pa, ca, vals, hk, rfl, hmm, rfl, HP⟩ := hrel
            have hvl : vals.length = mm := by have := HP.out.own.1; simpa using this
            have Hvl := Lib.hid hvl
            have Hmm := Lib.hid hmm
            have hmb : mm ≤ 8589934588 := by omega
            clear hvl hmm
            by_cases hlt : k < k2
            · obtain ⟨R, hR⟩ : ∃ R, rs[k]? = some R := ⟨_, List.getElem?_eq_getElem (by rw [Hlen.out]; exact hlt)⟩
              have c1 := HP.out.row.cell hR
              have hglr := HP.out.row.lt
              have hnr := (HP.out.rest k R (Nat.le_refl _) hR).1
              obtain ⟨h1, h2⟩ := HP.out.begin hR HD.out Hmm.out Hvl.out (by omega)
              obtain ⟨pR, nR, cR⟩ := R
              simp only at c1 hnr h2
              have HPk := Lib.hid h1
              have HGk := Lib.hid h2
              have hki : (k : Int) < (k2 : Int) := by omega
              have hk5 : (0 : Int) ≤ (k : Int) := by omega
              clear hR h1 h2
              go_wp2_with fail
              go_loopw [9, 11, 12] (fun al x i wr => ∃ (t m nx : Nat) (pa : Option Addr) (ca : Nat) (vals : List Value) (px : Option Addr) (cx : Nat), t ≤ 4 ∧ i = .int .i64 t ∧ m = 4 * k + t ∧ nx = nR + t ∧ x = .slice px nx cx ∧ al = .slice pa m ca ∧ Hid (PhQ B0 w3.heap.size rs gl w wr (k + 1) m (.slice pa m ca) vals) ∧ Hid (GrQ B0 w3.heap.size rs wr k vals px nx cx)) (fun _ _ i _ => 4 - (intOf i).toNat)
              case atStart => exact ⟨0, mm, nR, pa, ca, vals, pR, cR, by omega, rfl, Hmm.out, rfl, rfl, rfl, HPk, HGk⟩
              case round =>
                clear HPk HGk HP
                obtain ⟨t, m, nx, pa, ca, vals, px, cx, ht, rfl, hm, hnx, rfl, rfl, HP, HG⟩ := hrel
                have hmb2 : m ≤ 8589934592 := by omega
                have hnb : nx ≤ 4294967300 := by omega
                have hm5 : m / 4 = k ∨ t = 4 := by omega
                have Hm := Lib.hid hm
                have Hnx := Lib.hid hnx
                have Hm5 := Lib.hid hm5
                clear hm hnx hm5
                by_cases hltt : t < 4
                · have hltt' : (t : Int) < 4 := by omega
                  have hzr := HP.out.size
                  focus
                    go_wp2_with (at_builtin; go_must (refine wpList_append_lit rfl _ _ 47 rfl 44 i1 _ 24 Tryz.underlying47 hi hz0 hz1 hz2 rfl _ 1 (by omega) (by rfl) (by rfl) w3.heap.size _ m _ (by rfl) HP.out.own (by simp [Value.oneCell']) (by omega) (by omega) (by omega) ?_))
                  intro ga' ca' w5 hown5 hgrow5 hat5 hz5 hlt5
                  obtain ⟨s1, s2⟩ := HP.out.push (by decide) HG.out hown5 hgrow5 (by rcases Hm5.out with h | h <;> omega) (by omega) hgl3 hB3
                  have HP5 := Lib.hid s1
                  have HG5 := Lib.hid s2
                  clear hown5 hgrow5 hat5 s1 s2 HP HG
                  have hzr5 := HP5.out.size
                  have hu1 := u8_lo k
                  have hu2 := u8_hi k
                  have hcv : (convert 87 9 (.slice (some ⟨w5.heap.size, 0, none⟩) 2 2)).run Tryz.prog (w5.alloc (.cells #[.int .u8 ((k % 256 : Nat) : Int), .int .u8 ((k / 256 % 256 : Nat) : Int)] 5)) = .ok (.string ⟨#[UInt8.ofNat (k % 256), UInt8.ofNat (k / 256 % 256)]⟩) (w5.alloc (.cells #[.int .u8 ((k % 256 : Nat) : Int), .int .u8 ((k / 256 % 256 : Nat) : Int)] 5)) := conv2 k w5 0
                  have hadd : ∀ wx : World, (Op.stringOp .add ⟨#[109, 97, 114, 107]⟩ ⟨#[UInt8.ofNat (k % 256), UInt8.ofNat (k / 256 % 256)]⟩).run Tryz.prog wx = .ok (.string (B (markL k))) wx := fun wx => by
                    rw [← mark_add]
                    exact run_string_add_sum wx _ _ (by simp [ByteArray.size])
                  generalize k % 256 = a1 at hu1 hcv hadd
                  generalize k / 256 % 256 = a2 at hu2 hcv hadd
                  obtain ⟨W, hW⟩ : ∃ W, W = (w5.alloc (.cells #[.int .u8 (a1 : Int), .int .u8 (a2 : Int)] 5)).alloc (.cells #[.string ⟨#[]⟩, .string (B (markL k)), .string ⟨#[]⟩] 57) := ⟨_, rfl⟩
                  have hbW : Below w5.heap.size w5 W := by rw [hW]; exact ((Below.refl _ _).alloc (Nat.le_refl _) _).alloc (by simp) _
                  have hszW : W.heap.size = w5.heap.size + 1 + 1 := by rw [hW]; simp
                  have hnew : ∀ (j : Nat) (u : Value), (markC k)[j]? = some u → W.cell? ((⟨w5.heap.size + 1, 0, none⟩ : Addr).add j) = some u := fun j u hj => by
                    rw [ls.addN, Nat.zero_add, hW]
                    have h := heap_alloc_new (w5.alloc (.cells #[.int .u8 (a1 : Int), .int .u8 (a2 : Int)] 5)) (.cells #[.string ⟨#[]⟩, .string (B (markL k)), .string ⟨#[]⟩] 57)
                    have e : (w5.alloc (.cells #[.int .u8 (a1 : Int), .int .u8 (a2 : Int)] 5)).heap.size = w5.heap.size + 1 := by simp
                    rw [e] at h
                    rw [cell_in h]
                    show (markC k).toArray[j]? = some u
                    rw [List.getElem?_toArray]
                    exact hj
                  have HW2 := Lib.hid hW
                  have Hnew := Lib.hid hnew
                  have HP2 := Lib.hid (HP5.out.below hbW hB3)
                  have HG2 := Lib.hid (HG5.out.below hbW)
                  clear hW hnew hbW HP5 HG5
                  obtain ⟨olds, hol1, hol2, hol3, hol4⟩ := HG2.out.xs.olds markC_len (by omega)
                  have Hol1 := Lib.hid hol1
                  have Hol2 := Lib.hid hol2
                  have Hol3 := Lib.hid hol3
                  have Hol4 := Lib.hid hol4
                  have hcx := HG2.out.xs.le
                  clear hol1 hol2 hol3 hol4
                  rcases (show nx + 1 ≤ cx ∨ cx < nx + 1 by omega) with hroom | hfull
                  · obtain ⟨gx, cs, rfl, hsb, hcs⟩ : ∃ gx cs, px = some ⟨gx, 0, none⟩ ∧ ls.SB 57 W gx cs ∧ cx * 3 ≤ cs.size := by
                      rcases HG2.out.xs with ⟨_, _, h⟩ | ⟨g, cs, h1, h2, _, h3, _⟩
                      · omega
                      · exact ⟨g, cs, h1, h2, h3⟩
                    have HSB := Lib.hid hsb
                    have Hroom := Lib.hid hroom
                    obtain ⟨r1, r2⟩ := HP2.out.room (by decide) markC_len HD.out HG2.out hroom
                    have HP3 := Lib.hid r1
                    have HG3 := Lib.hid r2
                    clear hsb hroom r1 r2
                    focus
                      go_wp2_with (at_builtin; go_must (refine wpList_append_arg _ rfl (.tmp 81) (.tmp 91) 44 rfl 57 i0 (.agg #[.string .empty, .string .empty, .string .empty]) 3 48 Tryz.underlying44 si sz0 sz1 sz2 rfl (by decide) gx 0 nx cx olds rfl Hol1.out ?c0 ⟨w5.heap.size + 1, 0, none⟩ 1 1 (markC k) rfl rfl ?c1 ?c2 ?c3 (by unfold maxLen; omega) (by omega) ?room ?grow))
                    case c0 => rw [← HW2.out]; exact fun j u hj => by have := Hol3.out _ rfl j u hj; rwa [ls.addN] at this
                    case c1 => rw [← HW2.out]; exact Hnew.out
                    case c2 => simp [markC, Value.oneCell']
                    case c3 =>
                      rw [← HW2.out]
                      intro _ j hj
                      rw [markC_len] at hj
                      have hr := Hroom.out
                      rw [cell_in HSB.out, Array.getElem?_eq_getElem (by omega)]
                      exact ⟨rfl, free_in HSB.out⟩
                    case grow => intro h; have := Hroom.out; omega
                    case room =>
                      intro _
                      rw [← HW2.out]
                      try rw [Nat.zero_add]
                      generalize W.setCells gx (nx * 3) (markC k) = W3 at *
                      go_wp2_with fail
                      go_roundw
                      case rel => exact ⟨t + 1, m + 1, nx + 1, some ⟨ga', 0, none⟩, ca', _, _, _, by omega, by go_num, by have := Hm.out; omega, by have := Hnx.out; omega, rfl, rfl, HP3, HG3⟩
                      case measure => simp [intOf]; omega
                  · focus
                      go_wp2_with (at_builtin; go_must (refine wpList_append_grows _ rfl (.tmp 81) (.tmp 91) 44 rfl 57 i0 (.agg #[.string .empty, .string .empty, .string .empty]) 3 48 Tryz.underlying44 si sz0 sz1 sz2 rfl (by decide) px nx cx olds rfl (fun h => Hol4.out h) Hol1.out ?d0 ⟨w5.heap.size + 1, 0, none⟩ 1 1 (markC k) rfl rfl ?d1 ?d2 hfull (by unfold maxLen; omega) (by omega) ?dgrow))
                    case d0 => rw [← HW2.out]; exact fun b hb j u hj => Hol3.out b hb j u hj
                    case d1 => rw [← HW2.out]; exact Hnew.out
                    case d2 => simp [markC, Value.oneCell']
                    case dgrow =>
                      rw [← HW2.out]
                      intro v' w' hown hgrow
                      try rw [← hszW] at hown
                      have hown' : w'.ownsRow W.heap.size 57 3 v' (nx + 1) (olds ++ markC k) := by first | exact hown | (rw [hszW]; exact hown)
                      obtain ⟨gx, cx', rfl, hg3⟩ := HG2.out.grow markC_len (by omega) HP2.out.ents hown' (Nat.le_refl _) HP2.out.size hB3 Hol1.out Hol2.out
                      have HP3 := Lib.hid (HP2.out.below (ls.below_none hgrow) hB3)
                      have HG3 := Lib.hid hg3
                      clear hown hown' hgrow hg3
                      go_wp2_with fail
                      go_roundw
                      case rel => exact ⟨t + 1, m + 1, nx + 1, some ⟨ga', 0, none⟩, ca', _, _, _, by omega, by go_num, by have := Hm.out; omega, by have := Hnx.out; omega, rfl, rfl, HP3, HG3⟩
                      case measure => simp [intOf]; omega
                · obtain rfl : t = 4 := by omega
                  go_wp2_with fail
                  go_roundw
                  case rel => exact ⟨k + 1, m, pa, ca, vals, by omega, by go_num, by have := Hm.out; omega, rfl, HP⟩
                  case measure => simp [intOf]; omega
            · obtain rfl : k = k2 := by omega
              have hmca : mm ≤ ca := by
                rcases HP.out.own.2 with ⟨h, h0⟩ | ⟨g, cap, cur, h, _, _, h2, _⟩
                · cases h; omega
                · cases h; exact h2
              go_wp2_with fail
              go_loopw [13] (fun i wr => ∃ t : Nat, t ≤ mm ∧ i = .int .i64 t ∧ Hid (PhQ B0 w3.heap.size rs gl w wr k mm (.slice pa mm ca) vals)) (fun i _ => mm - (intOf i).toNat)
              case atStart => exact ⟨0, by omega, rfl, HP⟩
              case round =>
                clear HP
                obtain ⟨t, ht, rfl, HP⟩ := hrel
                by_cases hltt : t < mm
                · obtain ⟨ga, rfl⟩ : ∃ ga, pa = some ⟨ga, 0, none⟩ := by
                    rcases HP.out.own.2 with ⟨_, h⟩ | ⟨g, cap, cur, h, _⟩
                    · omega
                    · cases h; exact ⟨g, rfl⟩
                  obtain ⟨v, hv⟩ : ∃ v, vals[t]? = some v := ⟨_, List.getElem?_eq_getElem (by rw [Hvl.out]; exact hltt)⟩
                  obtain ⟨p, nv, cv, rfl, hnv, hncv, _⟩ := HP.out.ents t v hv
                  have hcell : ∀ wx, PhQ B0 w3.heap.size rs gl w wx k mm (.slice (some ⟨ga, 0, none⟩) mm ca) vals → wx.cell? ⟨ga, t, none⟩ = some (.slice p nv cv) := fun wx h => by
                    have := h.own.cells (g := ga) rfl t _ hv
                    rwa [ls.addN, Nat.zero_add] at this
                  have Hcell := Lib.hid hcell
                  have hcv := hcell _ HP.out
                  have hga : ga < wr.heap.size := World.block_lt_of_cell? _ _ hcv
                  have Hv := Lib.hid hv
                  have hdiv : (t : Int).tdiv 4 = ((t / 4 : Nat) : Int) := by rw [Int.tdiv_eq_ediv_of_nonneg (by omega)]; omega
                  have hdiv2 : (t : Int) / 4 = ((t / 4 : Nat) : Int) := by omega
                  have hk64 : IntKind.i64.wrap (((t / 4 : Nat) : Int)) = ((t / 4 : Nat) : Int) := IntWalk.i64_in _ (by omega)
                  have hti : (t : Int) < (mm : Int) := by omega
                  have ht5 : (0 : Int) ≤ (t : Int) := by omega
                  obtain ⟨t4, ht4⟩ : ∃ t4, t4 = t / 4 := ⟨_, rfl⟩
                  have Ht4 := Lib.hid ht4
                  rw [← ht4] at hdiv hdiv2 hk64
                  clear hv hcell ht4
                  go_wp2_with fail
                  go_loopw [15] (fun i wx => ∃ j : Nat, j ≤ nv ∧ i = .int .i64 j ∧ Hid (PhQ B0 w3.heap.size rs gl w wx k mm (.slice (some ⟨ga, 0, none⟩) mm ca) vals)) (fun i _ => nv - (intOf i).toNat)
                  case atStart => exact ⟨0, by omega, rfl, HP⟩
                  case round =>
                    clear hcv hga HP
                    obtain ⟨j, hj, rfl, HP⟩ := hrel
                    have hcv := Hcell.out _ HP.out
                    have hga : ga < wr.heap.size := World.block_lt_of_cell? _ _ hcv
                    by_cases hltj : j < nv
                    · obtain ⟨g, cs, rfl, hsb, hat⟩ : ∃ g cs, p = some ⟨g, 0, none⟩ ∧ ls.SB 57 wr g cs ∧ ls.At cs (j * 3) (markC t4) := by
                        obtain ⟨p', nv', cv', he, _, _, hall⟩ := HP.out.ents t _ Hv.out
                        cases he
                        rw [← Ht4.out] at hall
                        rcases hall with h | ⟨g, cs, h1, h2, h3⟩
                        · omega
                        · exact ⟨g, cs, h1, h2, h3 j hltj⟩
                      have hlg : g < wr.heap.size := lt_of_block hsb
                      have d1 : wr.cell? ⟨g, j * 3 + 1, none⟩ = some (.string (B (markL t4))) := by rw [cell_in hsb]; exact hat 1 _ rfl
                      have q1 : ∀ o : Obj, (wr.alloc o).cell? ⟨ga, t, none⟩ = some (.slice (some ⟨g, 0, none⟩) nv cv) := fun o => (World.cell?_of_block (Below.heap_alloc wr o ga hga)).trans hcv
                      have q2 : ∀ o : Obj, (wr.alloc o).cell? ⟨g, j * 3 + 1, none⟩ = some (.string (B (markL t4))) := fun o => (World.cell?_of_block (Below.heap_alloc wr o g hlg)).trans d1
                      have HPn : ∀ o : Obj, Hid (PhQ B0 w3.heap.size rs gl w (wr.alloc o).drew k mm (.slice (some ⟨ga, 0, none⟩) mm ca) vals) := fun o => Lib.hid (HP.out.below (((Below.refl _ _).alloc (Nat.le_refl _) _).drew) hB3)
                      have hji : (j : Int) < (nv : Int) := by omega
                      have hj5 : (0 : Int) ≤ (j : Int) := by omega
                      have hu1 := u8_lo t4
                      have hu2 := u8_hi t4
                      have hcvt : (convert 87 9 (.slice (some ⟨wr.heap.size, 0, none⟩) 2 2)).run Tryz.prog (wr.alloc (.cells #[.int .u8 ((t4 % 256 : Nat) : Int), .int .u8 ((t4 / 256 % 256 : Nat) : Int)] 5)).drew = .ok (.string ⟨#[UInt8.ofNat (t4 % 256), UInt8.ofNat (t4 / 256 % 256)]⟩) (wr.alloc (.cells #[.int .u8 ((t4 % 256 : Nat) : Int), .int .u8 ((t4 / 256 % 256 : Nat) : Int)] 5)).drew := conv2 t4 wr 1
                      have hadd : ∀ ww : World, (Op.stringOp .add ⟨#[109, 97, 114, 107]⟩ ⟨#[UInt8.ofNat (t4 % 256), UInt8.ofNat (t4 / 256 % 256)]⟩).run Tryz.prog ww = .ok (.string (B (markL t4))) ww := fun ww => by
                        rw [← mark_add]
                        exact run_string_add_sum ww _ _ (by simp [ByteArray.size])
                      have hxy2 : ((B (markL t4)).toList != (B (markL t4)).toList) = false := by simp
                      clear hsb hat
                      generalize B (markL t4) = X at *
                      generalize t4 % 256 = a1 at hu1 hcvt hadd
                      generalize t4 / 256 % 256 = a2 at hu2 hcvt hadd
                      go_wp2_with fail
                      go_region_law (fail)
                      all_goals
                        clear hcvt hadd q1 q2 hu1 hu2
                        have HX := HPn (.cells #[.int .u8 (a1 : Int), .int .u8 (a2 : Int)] 5)
                        clear HPn HP
                        generalize (wr.alloc (.cells #[.int .u8 (a1 : Int), .int .u8 (a2 : Int)] 5)).drew = Wn at *
                        go_wp2_with fail
                        go_roundw
                        case rel => exact ⟨j + 1, by omega, by go_num, HX⟩
                        case measure => simp [intOf]; omega
                    · obtain rfl : j = nv := by omega
                      go_wp2_with fail
                      go_roundw
                      case rel => exact ⟨t + 1, by omega, by go_num, HP⟩
                      case measure => simp [intOf]; omega
                · obtain rfl : t = mm := by omega
                  go_wp2_with fail
                  go_ret
                  exact ⟨rfl, HP.out.bel⟩
end Go.Proofs.YthjcifokmcbaoaaGreatDoor.st
/- law 16's lent lays pairs in new memory, three behind them; whole tells that they are as they were. Conditions: at most 2147483647 pairs that lie in memory. -/
namespace Go.Proofs.YthjcifokmcbaoaaGreatDoor.st
open Go.ChangeShapes Go.WideShapes Go.ChangeAt Go.RowKit gl ls

theorem run_copy_k {P : Program} (w : World) (dT sT ty elem : TypeId) (g dLen dCap : Nat) (a : Addr) (sLen sCap : Nat) (cur : Array Value) (t : TypeId) (cs : List Value) (size n : Nat)
    (hu : P.underlying dT = some (.slice elem)) (hs : (P.info? elem).map (·.size) = some size) (hmin : Nat.min sLen dLen = n)
    (hg : w.heap[g]? = some (.cells cur t (0, 0))) (hn : cs.length = n * size)
    (hsrc : ∀ j v, cs[j]? = some v → w.cell? (a.add j) = some v) (hfit : cs.length ≤ cur.size) (h1 : ∀ v ∈ cs, v.oneCell' = true) :
    (Builtin.copy_ #[dT, sT] ty #[.slice (some ⟨g, 0, none⟩) dLen dCap, .slice (some a) sLen sCap]).run P w =
      .ok (goInt n) (w.setRow g (cs ++ cur.toList.drop cs.length).toArray) := by
  have hl := run_loadCells_list (P := P) w a cs hsrc
  have hst := run_storeCells_at P g 0 t cs 0 cur w hg (by simpa using hfit) h1
  cases hq : P.info? elem with
  | none => simp [hq] at hs
  | some i =>
    have hi : i.size = size := by simpa [hq] using hs
    simp only [Nat.zero_add, List.take_zero, List.nil_append] at hst
    simp [Builtin.copy_, run_underlying hu, Builtin.lenOf, Builtin.firstCells, sizeOf, typeInfo, hq, hi, hmin, ← hn, hl, hst]
theorem run_copy_0 {P : Program} (w : World) (dT sT ty elem : TypeId) (d a : Option Addr) (dLen dCap sLen sCap size : Nat) (hu : P.underlying dT = some (.slice elem)) (hs : (P.info? elem).map (·.size) = some size) (hn : Nat.min sLen dLen = 0) :
    (Builtin.copy_ #[dT, sT] ty #[.slice d dLen dCap, .slice a sLen sCap]).run P w = .ok (goInt 0) w := by
  cases hq : P.info? elem with
  | none => simp [hq] at hs
  | some i =>
    have hl : ∀ (x : Addr), (loadCells x 0).run P w = .ok #[] w := fun x => by simpa using run_loadCells_list (P := P) w x [] (by simp)
    cases d <;> cases a <;> simp [Builtin.copy_, run_underlying hu, Builtin.lenOf, Builtin.firstCells, sizeOf, typeInfo, hq, hn, storeCells, hl]
theorem infoPz : (Tryz.prog.info? 57).map (·.size) = some 3 := by kernel_rfl
abbrev zeroA : Value := .agg #[.string .empty, .string .empty, .string .empty]
def blanks (n : Nat) : Array Value := madeCells (Value.cells zeroA) (n * 3)
theorem blanks_size (n : Nat) : (blanks n).size = n * 3 := by simp [blanks, madeCells]
theorem blanks_at (n j : Nat) (hj : j < n * 3) : (blanks n)[j]? = some (.string ⟨#[]⟩) := by
  simp only [blanks, madeCells, Value.cells, Array.getElem?_map]
  rw [Array.getElem?_eq_getElem (by simpa using hj)]
  simp only [Array.getElem_range, Option.map_some]
  have h3 : j % 3 < 3 := Nat.mod_lt _ (by decide)
  have h : j % 3 = 0 ∨ j % 3 = 1 ∨ j % 3 = 2 := by omega
  rcases h with h | h | h <;> simp [h] <;> rfl
theorem makeP (m : Nat) (hm : m ≤ 2147483647) (w : World) : (Instr.makeSlice 44 (.int .i64 ((m : Int) + 3)) (.int .i64 ((m : Int) + 3))).run Tryz.prog w = .ok (.slice (some ⟨w.heap.size, 0, none⟩) (m + 3) (m + 3)) (w.alloc (.cells (blanks (m + 3)) 57)) := by
  obtain ⟨i, hi, he⟩ := Option.map_eq_some_iff.1 infoPr
  simp only [Prod.mk.injEq] at he
  obtain ⟨hz, h1, h8⟩ := he
  have h := run_make (P := Tryz.prog) w 44 57 i zeroA Tryz.underlying44 hi hz .i64 .i64 ((m : Int) + 3) ((m : Int) + 3) (by omega) (by omega) (by rw [h8]; omega) (by omega)
  rw [h, h1, show ((m : Int) + 3).toNat = m + 3 by omega]
  rfl
abbrev zP : Pr := ⟨[], [], []⟩
abbrev spareP : Pr := ⟨[115, 112, 97, 114, 101], [], []⟩
/-- The pairs, and what stands behind them. -/
def lentL (l : List Pr) : List Pr := l ++ [spareP, zP, zP]
theorem lentL_len (l : List Pr) : (lentL l).length = l.length + 3 := by simp [lentL]
theorem lies_copied {g m : Nat} {w : World} {l : List Pr} (hl : l.length = m) (h : w.heap[g]? = some (.cells ((prsC l) ++ (blanks (m + 3)).toList.drop (prsC l).length).toArray 57 (0, 0))) : LiesP g (m + 3) w (l ++ [zP, zP, zP]) := by
  have hpl : (prsC l).length = m * 3 := by rw [rw.flat_len prC_len, hl]
  refine ⟨_, h, by simp [hl], by simp [hpl, blanks_size]; omega, fun j v hj => ?_⟩
  rw [Nat.zero_add, List.getElem?_toArray]
  have hap : prsC (l ++ [zP, zP, zP]) = prsC l ++ prsC [zP, zP, zP] := rw.flat_append _ _
  rw [hap] at hj
  by_cases hlt : j < (prsC l).length
  · rw [List.getElem?_append_left hlt] at hj ⊢
    exact hj
  · rw [List.getElem?_append_right (by omega)] at hj ⊢
    have hj9 : j - (prsC l).length < 9 := (List.getElem?_eq_some_iff.1 hj).1
    have hv : v = .string ⟨#[]⟩ := by
      have : prsC [zP, zP, zP] = List.replicate 9 (.string ⟨#[]⟩) := rfl
      rw [this, List.getElem?_replicate] at hj
      simp [hj9] at hj
      exact hj.symm
    rw [hv, List.getElem?_drop, show (prsC l).length + (j - (prsC l).length) = j by omega, Array.getElem?_toList]
    exact blanks_at _ _ (by omega)
theorem lies_lent {g m c : Nat} {w : World} {l : List Pr} (hl : l.length = m) (h : LiesP g c w (l ++ [zP, zP, zP])) : LiesP g c (w.setCell ⟨g, m * 3, none⟩ (.string ⟨#[115, 112, 97, 114, 101]⟩)) (lentL l) := by
  have hx : (l ++ [zP, zP, zP])[m]? = some zP := by rw [List.getElem?_append_right (by omega), hl, Nat.sub_self]; rfl
  have := h.table hx [115, 112, 97, 114, 101]
  rw [List.set_append_right _ _ (by omega), hl, Nat.sub_self] at this
  exact this

set_option maxHeartbeats 2000000 in
set_option maxRecDepth 100000 in
theorem lent_any (p : Option Addr) (m c : Nat) (l : List Pr) (hm : m ≤ 2147483647) (w : World) (h : Prs w (.slice p m c) l) :
    Calls Tryz.prog 32 #[.slice p m c] w fun e w' => e = .returned (.slice (some ⟨w.heap.size, 0, none⟩) (m + 3) (m + 3)) ∧ LiesP w.heap.size (m + 3) w' (lentL l) ∧ Below w.heap.size w w' := by
  obtain ⟨hlen, hmc, hptr⟩ := h.ptr
  have hms := makeP m hm w
  obtain ⟨W0, hW0⟩ : ∃ W0, W0 = w.alloc (.cells (blanks (m + 3)) 57) := ⟨_, rfl⟩
  have hb0 : Below w.heap.size w W0 := by rw [hW0]; exact (Below.refl _ w).alloc (Nat.le_refl _) _
  have hg : W0.heap[w.heap.size]? = some (.cells (blanks (m + 3)) 57 (0, 0)) := by rw [hW0]; exact heap_alloc_new w _
  have hpl : (prsC l).length = m * 3 := by rw [rw.flat_len prC_len, hlen]
  have hcp : ∃ w3, (Builtin.copy_ #[44, 44] 3 #[.slice (some ⟨w.heap.size, 0, none⟩) (m + 3) (m + 3), .slice p m c]).run Tryz.prog W0 = .ok (goInt m) w3 ∧ LiesP w.heap.size (m + 3) w3 (l ++ [zP, zP, zP]) ∧ Below w.heap.size W0 w3 := by
    by_cases h0 : m = 0
    · subst h0
      obtain rfl : l = [] := List.eq_nil_of_length_eq_zero hlen
      refine ⟨W0, ?_, ?_, Below.refl _ _⟩
      · exact run_copy_0 (P := Tryz.prog) W0 44 44 3 57 _ p _ _ _ _ 3 Tryz.underlying44 infoPz (by rfl)
      · exact lies_copied (l := []) rfl (by rw [hg]; simp [prsC, rw.flat])
    · obtain ⟨b, o, rfl, hbl⟩ := hptr (by omega)
      refine ⟨_, run_copy_k (P := Tryz.prog) W0 44 44 3 57 w.heap.size _ _ ⟨b, o, none⟩ _ _ (blanks (m + 3)) 57 (prsC l) 3 m Tryz.underlying44 infoPz (Nat.min_eq_left (by omega)) hg hpl (fun j v hj => ?_) (by rw [hpl, blanks_size]; omega) (rw.flat_one prC_one l), ?_, below_setRow (Below.refl _ _) (Nat.le_refl _) _⟩
      · obtain ⟨y, hy, hv⟩ := flat_inv hj
        have hc := rw.Rw.cell h hy hv
        rw [show j / 3 * 3 + j % 3 = j by omega] at hc
        rw [ls.addN]
        exact (hb0.cell (p := ⟨b, o + j, none⟩) hbl).trans hc
      · exact lies_copied hlen (setRow_heap W0 _ _ _ _ _ hg)
  obtain ⟨w3, hcopy, hL3, hb3⟩ := hcp
  have hsz3 := hb3.size
  have hsz0 : W0.heap.size = w.heap.size + 1 := by rw [hW0]; simp
  obtain ⟨cs3, hg3, hcs3⟩ : ∃ cs3, w3.heap[w.heap.size]? = some (.cells cs3 57 (0, 0)) ∧ (m + 3) * 3 ≤ cs3.size := by
    obtain ⟨cs3, h1, _, h2, _⟩ := hL3
    exact ⟨cs3, h1, h2⟩
  have c0 : w3.cell? ⟨w.heap.size, m * 3, none⟩ = some cs3[m * 3] := by rw [cell_in hg3, Array.getElem?_eq_getElem]
  have f0 : w3.frozen? ⟨w.heap.size, m * 3, none⟩ = false := free_in hg3
  have HLn := Lib.hid (lies_lent hlen hL3)
  have HB := Lib.hid ((hb0.trans (hb3.mono (Nat.le_refl _))).setCell (p := ⟨w.heap.size, m * 3, none⟩) (Nat.le_refl _) (.string ⟨#[115, 112, 97, 114, 101]⟩))
  have hgo : goInt (m : Int) = .int .i64 m := rfl
  generalize cs3[m * 3] = old at c0
  clear hg3 hcs3 hL3 hb3 hb0 hg hpl hptr h hlen
  subst hW0
  go_enter Tryz.func32, Tryz.ntmps32
  go_wp2_with fail
  go_ret
  exact ⟨rfl, HLn.out, HB.out⟩

theorem lent_take {g m : Nat} {w : World} {l : List Pr} (hl : l.length = m) (h : LiesP g (m + 3) w (lentL l)) : Prs w (.slice (some ⟨g, 0, none⟩) m (m + 3)) l := by
  have h1 := h.prs
  rw [lentL_len, hl] at h1
  have h2 := rw.Rw.take h1 (m := m) (by omega)
  have e : (lentL l).take m = l := by unfold lentL; rw [List.take_append_of_le_length (by omega), List.take_of_length_le (by omega)]
  rwa [e] at h2
set_option maxHeartbeats 2000000 in
set_option maxRecDepth 100000 in
theorem whole_any (g : Nat) (p : Option Addr) (m c : Nat) (l : List Pr) (hm : m ≤ 2147483647) (w : World) (hL : LiesP g (m + 3) w (lentL l)) (h : Prs w (.slice p m c) l) :
    Calls Tryz.prog 34 #[.slice (some ⟨g, 0, none⟩) (m + 3) (m + 3), .slice p m c] w fun e w' => e = .returned (.bool true) ∧ Upd [g] w w' := by
  obtain ⟨hlen, hmc, _⟩ := h.ptr
  have hglt := hL.lt
  have Hcells : Hid (∀ q, ((w.drewN q).cell? ⟨g, m * 3, none⟩ = some (.string ⟨#[115, 112, 97, 114, 101]⟩) ∧ (w.drewN q).cell? ⟨g, m * 3 + 1, none⟩ = some (.string ⟨#[]⟩) ∧ (w.drewN q).cell? ⟨g, m * 3 + 2, none⟩ = some (.string ⟨#[]⟩)) ∧ ((w.drewN q).cell? ⟨g, (m + 1) * 3, none⟩ = some (.string ⟨#[]⟩) ∧ (w.drewN q).cell? ⟨g, (m + 1) * 3 + 1, none⟩ = some (.string ⟨#[]⟩) ∧ (w.drewN q).cell? ⟨g, (m + 1) * 3 + 2, none⟩ = some (.string ⟨#[]⟩)) ∧ ((w.drewN q).cell? ⟨g, (m + 2) * 3, none⟩ = some (.string ⟨#[]⟩) ∧ (w.drewN q).cell? ⟨g, (m + 2) * 3 + 1, none⟩ = some (.string ⟨#[]⟩) ∧ (w.drewN q).cell? ⟨g, (m + 2) * 3 + 2, none⟩ = some (.string ⟨#[]⟩))) := Lib.hid fun q => by
    have hP := (hL.later (drewN_bel w q)).prs
    have e0 : (lentL l)[m]? = some spareP := by unfold lentL; rw [List.getElem?_append_right (by omega), hlen, Nat.sub_self]; rfl
    have e1 : (lentL l)[m + 1]? = some zP := by unfold lentL; rw [List.getElem?_append_right (by omega), hlen, show m + 1 - m = 1 by omega]; rfl
    have e2 : (lentL l)[m + 2]? = some zP := by unfold lentL; rw [List.getElem?_append_right (by omega), hlen, show m + 2 - m = 2 by omega]; rfl
    have k0 := prs_cells hP e0
    have k1 := prs_cells hP e1
    have k2 := prs_cells hP e2
    simp only [Nat.zero_add] at k0 k1 k2
    exact ⟨k0, k1, k2⟩
  obtain ⟨cs, hg, hcs⟩ : ∃ cs, w.heap[g]? = some (.cells cs 57 (0, 0)) ∧ (m + 3) * 3 ≤ cs.size := by
    obtain ⟨cs, h1, _, h2, _⟩ := hL
    exact ⟨cs, h1, h2⟩
  have Hg := Lib.hid hg
  have HC := Lib.hid (same_quiet (some ⟨g, 0, none⟩) p m (m + 3) c l (by omega) w (lent_take hlen hL) h)
  have heq := eql_pr
  clear hL h hlen hg
  go_enter Tryz.func34, Tryz.ntmps34
  go_wp2_with fail
  refine HC.out.mono ?_
  rintro e w1 ⟨rfl, q, hw1⟩
  obtain ⟨⟨a0, a1, a2⟩, ⟨b0', b1, b2⟩, ⟨c0, c1, c2⟩⟩ := Hcells.out q
  rw [← hw1] at a0 a1 a2 b0' b1 b2 c0 c1 c2
  have hg1 : w1.heap[g]? = some (.cells cs 57 (0, 0)) := by rw [hw1]; exact Hg.out
  have hb1 : Upd [g] w w1 := by rw [hw1]; exact Upd.of_below (drewN_bel w q) _
  have hz1 : w1.heap.size = w.heap.size := by rw [hw1]; rfl
  have Hg1 := Lib.hid hg1
  have Hb1 := Lib.hid hb1
  clear hw1 hg1 hb1 Hcells HC
  go_wp2_with fail
  clear a0 a1 a2 b0' b1 b2 c0 c1 c2 heq
  go_loopw [6] (fun i wr => ∃ (j : Nat) (cs : Array Value), j ≤ m + 3 ∧ i = .int .i64 j ∧ Hid (wr.heap[g]? = some (.cells cs 57 (0, 0))) ∧ (m + 3) * 3 ≤ cs.size ∧ Hid (Upd [g] w wr)) (fun i _ => m + 3 - (intOf i).toNat)
  case atStart => exact ⟨0, cs, by omega, rfl, Hg1, hcs, Hb1⟩
  case round =>
    clear Hg1 Hb1 hcs Hg
    obtain ⟨j, cs, hj, rfl, Hg, hcs, Hb⟩ := hrel
    by_cases hlt : j < m + 3
    · have hsz := Hb.out.size
      have hgr : g < wr.heap.size := by omega
      have hat : ∀ i, i < 3 → wr.cell? ⟨g, j * 3 + i, none⟩ = some (cs[j * 3 + i]?.getD undef) := fun i hi => by
        rw [cell_in Hg.out, Array.getElem?_eq_getElem (by omega)]
        rfl
      have d0 := hat 0 (by omega)
      have d1 := hat 1 (by omega)
      have d2 := hat 2 (by omega)
      have e0 : wr.frozen? ⟨g, j * 3, none⟩ = false := free_in Hg.out
      have e1 : wr.frozen? ⟨g, j * 3 + 1, none⟩ = false := free_in Hg.out
      have e2 : wr.frozen? ⟨g, j * 3 + 2, none⟩ = false := free_in Hg.out
      rw [Nat.add_zero] at d0
      generalize cs[j * 3]?.getD undef = o0 at d0
      generalize cs[j * 3 + 1]?.getD undef = o1 at d1
      generalize cs[j * 3 + 2]?.getD undef = o2 at d2
      have hji : (j : Int) < (m : Int) + 3 := by omega
      have hj5 : (0 : Int) ≤ (j : Int) := by omega
      clear hat
      go_wp2_with fail
      go_roundw
      case rel => exact ⟨j + 1, setR cs (j * 3) [.string ⟨#[111, 118, 101, 114]⟩, .string ⟨#[]⟩, .string ⟨#[]⟩], by omega, by go_num, Lib.hid (heap_setCells [.string ⟨#[111, 118, 101, 114]⟩, .string ⟨#[]⟩, .string ⟨#[]⟩] wr cs (j * 3) Hg.out), by rw [setR_size]; exact hcs, Lib.hid (upd_setCells (.inl (by simp)) [.string ⟨#[111, 118, 101, 114]⟩, .string ⟨#[]⟩, .string ⟨#[]⟩] wr (j * 3) Hb.out)⟩
      case measure => simp [intOf]; omega
    · obtain rfl : j = m + 3 := by omega
      have hdec : decide (((m + 3 : Nat) : Int) < (m : Int) + 3) = false := by simp
      go_wp2_with fail
      go_ret
      exact ⟨rfl, Hb.out⟩
end Go.Proofs.YthjcifokmcbaoaaGreatDoor.st
/- law 16's StepApplies, StepScripts: laws on memory: the lists that came out, in a row, beside the lists they are compared with. No walk; no conditions. -/
namespace Go.Proofs.YthjcifokmcbaoaaGreatDoor.st
open Go.ChangeShapes Go.WideShapes Go.ChangeAt Go.RowKit gl

theorem NewPrs.keep {M : Nat} {w w' : World} {v : Value} {l : List Pr} (h : NewPrs M w v l) (hk : ls.SK 57 w w') : NewPrs M w' v l := by
  rcases h with h | ⟨g, c, cs, rfl, hc, hg, hbk, h2⟩
  · exact .inl h
  · exact .inr ⟨g, c, cs, rfl, hc, hg, hk g cs hbk, h2⟩
theorem NewPrs.form {M : Nat} {w : World} {v : Value} {l : List Pr} (h : NewPrs M w v l) : ∃ p c, v = .slice p l.length c := by
  rcases h with ⟨rfl, rfl⟩ | ⟨g, c, cs, rfl, _⟩
  · exact ⟨none, 0, rfl⟩
  · exact ⟨_, c, rfl⟩
theorem NewPrs.hold {M : Nat} {w : World} {i q : Nat} {R : ls.LR} {l : List Pr} {mk : Nat → List Value} (h : NewPrs M w R.v l) (hl : l.length ≤ 4294967295) (hq : q = 0) : ls.HoldR 57 3 mk M w.heap.size w i R q := by
  obtain ⟨p, n, c⟩ := R
  rcases h with ⟨rfl, h⟩ | ⟨g, c', cs, h, hc, hg, hb, hcs, _⟩
  · simp only [ls.LR.v, Value.slice.injEq] at h
    obtain ⟨rfl, rfl, rfl⟩ := h
    exact ⟨by simp, Nat.le_refl _, .inl ⟨rfl, rfl, rfl⟩⟩
  · simp only [ls.LR.v, Value.slice.injEq] at h
    obtain ⟨rfl, rfl, rfl⟩ := h
    exact ⟨hl, hc, .inr ⟨g, cs, rfl, hg, lt_of_block hb, hb, hcs, fun j hj => by omega⟩⟩

theorem prs_same {w : World} {v : Value} {l l' : List Pr} (h : Prs w v l) (h' : Prs w v l') : l = l' := by
  obtain ⟨p, c, rfl⟩ := Prs.form h
  have hl : l'.length = l.length := h'.ptr.1
  apply List.ext_getElem hl.symm
  intro i h1 h2
  obtain ⟨b, o, rfl, _⟩ := h.ptr.2.2 (by omega)
  obtain ⟨c0, c1, c2⟩ := prs_cells h (List.getElem?_eq_getElem h1)
  obtain ⟨d0, d1, d2⟩ := prs_cells h' (List.getElem?_eq_getElem h2)
  rw [d0] at c0; rw [d1] at c1; rw [d2] at c2
  simp only [Option.some.injEq, Value.string.injEq] at c0 c1 c2
  have e0 := congrArg (·.data.toList) c0
  have e1 := congrArg (·.data.toList) c1
  have e2 := congrArg (·.data.toList) c2
  simp only at e0 e1 e2
  rcases hx : l[i] with ⟨x0, x1, x2⟩
  rcases hy : l'[i] with ⟨y0, y1, y2⟩
  rw [hx, hy] at e0 e1 e2
  simp only at e0 e1 e2
  rw [e0, e1, e2]
/-- A list to compare with: a new one, or the one that was given. -/
def Want (M : Nat) (a0 : Value) (l0 : List Pr) (w : World) (v : Value) (l : List Pr) : Prop := NewPrs M w v l ∨ (v = a0 ∧ l = l0)
theorem Want.keep {M : Nat} {a0 : Value} {l0 : List Pr} {w w' : World} {v : Value} {l : List Pr} (h : Want M a0 l0 w v l) (hk : ls.SK 57 w w') : Want M a0 l0 w' v l := by
  rcases h with h | h
  · exact .inl (NewPrs.keep h hk)
  · exact .inr h
theorem Want.prs {M : Nat} {a0 : Value} {l0 : List Pr} {w : World} {v : Value} {l : List Pr} (h : Want M a0 l0 w v l) (h0 : Prs w a0 l0) : Prs w v l := by
  rcases h with h | ⟨rfl, rfl⟩
  · exact h.rw prC_len
  · exact h0
theorem Want.of {M M' : Nat} {a a0 : Value} {l0 lb : List Pr} {w w' : World} {v : Value} {l : List Pr} (h : RefP a M' w' v l) (hM : M ≤ M') (ha : Want M a0 l0 w a lb) (hP : Prs w a lb) (hb : Below w.heap.size w w') : Want M a0 l0 w' v l := by
  rcases h with h | ⟨rfl, h⟩
  · exact .inl (h.base hM).new
  · have e : l = lb := prs_same h (hP.later hb)
    subst e
    exact ha.keep (ls.SK.of_below hb)
structure PL (M : Nat) (a0 : Value) (l0 : List Pr) (w : World) (k : Nat) (pl : Option Addr) (cl : Nat) (pw : Option Addr) (cw : Nat) (rs : List ls.LR) (lss : List (List Pr)) (vw : List Value) : Prop where
  ownl : w.ownsRow M 44 1 (.slice pl k cl) k (rs.map ls.LR.v)
  ownw : w.ownsRow M 44 1 (.slice pw k cw) k vw
  apart : ∀ g, (Value.slice pl k cl).ownBlock = some g → (Value.slice pw k cw).ownBlock ≠ some g
  len : lss.length = k
  dist : ls.Dist rs
  news : ∀ (i : Nat) (R : ls.LR) (l : List Pr), rs[i]? = some R → lss[i]? = some l → NewPrs M w R.v l ∧ l.length ≤ 4294967295
  wants : ∀ (i : Nat) (v : Value) (l : List Pr), vw[i]? = some v → lss[i]? = some l → Want M a0 l0 w v l
theorem own_other {w w' : World} {base n size : Nat} {e : TypeId} {v : Value} {xs : List Value} {row : Option Nat} (ho : w.ownsRow base e size v n xs) (hg : w.grownBy w' row) (hr : ∀ g, v.ownBlock = some g → row ≠ some g) : w'.ownsRow base e size v n xs :=
  (Upd.of_grown (S := row.toList) hg (fun k hk => by rw [hk]; simp)).row ho fun g hgb hm => hr g hgb (by simpa using hm)
theorem PL.start (M : Nat) (a0 : Value) (l0 : List Pr) (w : World) : PL M a0 l0 w 0 none 0 none 0 [] [] [] :=
  ⟨⟨rfl, .inl ⟨rfl, rfl⟩⟩, ⟨rfl, .inl ⟨rfl, rfl⟩⟩, fun g h => (by cases h), rfl, fun i j Ri Rj g h => (by simp at h), fun i R xs h => (by simp at h), fun i v xs h => (by simp at h)⟩
theorem PL.keep {M : Nat} {a0 : Value} {l0 : List Pr} {w w' : World} {k cl cw : Nat} {pl pw : Option Addr} {rs : List ls.LR} {lss : List (List Pr)} {vw : List Value} (h : PL M a0 l0 w k pl cl pw cw rs lss vw) (hb : Below w.heap.size w w') : PL M a0 l0 w' k pl cl pw cw rs lss vw :=
  ⟨ls.own_kept h.ownl hb, ls.own_kept h.ownw hb, h.apart, h.len, h.dist, fun i R xs h1 h2 => ⟨(h.news i R xs h1 h2).1.later hb, (h.news i R xs h1 h2).2⟩, fun i v xs h1 h2 => (h.wants i v xs h1 h2).keep (ls.SK.of_below hb)⟩
theorem PL.fresh {M : Nat} {a0 : Value} {l0 : List Pr} {w w' : World} {k cl cw : Nat} {pl pw : Option Addr} {rs : List ls.LR} {lss : List (List Pr)} {vw : List Value} (h : PL M a0 l0 w k pl cl pw cw rs lss vw) {R : ls.LR} {l : List Pr} (hR : NewPrs w.heap.size w' R.v l) :
    ∀ (i : Nat) (S : ls.LR) (g : Nat), rs[i]? = some S → S.p = some ⟨g, 0, none⟩ → R.p ≠ some ⟨g, 0, none⟩ := by
  intro i S g hS hp e
  obtain ⟨p, n, c⟩ := R
  have hrl : rs.length = k := by have := h.ownl.1; simpa using this
  have hi := ls.lt_get hS
  obtain ⟨xs, hx⟩ : ∃ xs, lss[i]? = some xs := ⟨_, List.getElem?_eq_getElem (by rw [h.len]; omega)⟩
  rcases hR with ⟨_, h1⟩ | ⟨q, c', cs, h1, _, h2, _⟩
  · simp only [ls.LR.v, Value.slice.injEq] at h1
    rw [h1.1] at e; cases e
  · simp only [ls.LR.v, Value.slice.injEq] at h1
    simp only [h1.1] at e
    obtain rfl : q = g := by simpa using e
    obtain ⟨p', n', c2⟩ := S
    rcases (h.news i _ xs hS hx).1 with ⟨_, h3⟩ | ⟨q', c3, cs', h3, _, _, h4, _⟩
    · simp only [ls.LR.v, Value.slice.injEq] at h3
      simp only [h3.1] at hp; cases hp
    · simp only [ls.LR.v, Value.slice.injEq] at h3
      simp only [h3.1] at hp
      obtain rfl : q' = q := by simpa using hp
      have := lt_of_block h4
      omega
theorem PL.wantAt {M : Nat} {a0 : Value} {l0 : List Pr} {w wa : World} {k cl cw : Nat} {pl pw : Option Addr} {rs : List ls.LR} {lss : List (List Pr)} {vw : List Value}
    (h : PL M a0 l0 w k pl cl pw cw rs lss vw) (hga : w.grownBy wa (Value.slice pl k cl).ownBlock) : wa.ownsRow M 44 1 (.slice pw k cw) k vw := own_other h.ownw hga fun g hg e => h.apart g e hg
/-- One list more, in two appends. -/
theorem PL.next {M : Nat} {a0 : Value} {l0 : List Pr} {w wa wb : World} {k cl cw ga gb ca cb : Nat} {pl pw : Option Addr} {rs : List ls.LR} {lss : List (List Pr)} {vw : List Value} {R : ls.LR} {l : List Pr} {v : Value}
    (h : PL M a0 l0 w k pl cl pw cw rs lss vw) (hR : NewPrs M w R.v l) (hRn : l.length ≤ 4294967295) (hRd : ∀ (i : Nat) (S : ls.LR) (g : Nat), rs[i]? = some S → S.p = some ⟨g, 0, none⟩ → R.p ≠ some ⟨g, 0, none⟩) (hvx : Want M a0 l0 w v l)
    (oa : wa.ownsRow M 44 1 (.slice (some ⟨ga, 0, none⟩) (k + 1) ca) (k + 1) (rs.map ls.LR.v ++ [R.v])) (hga : w.grownBy wa (Value.slice pl k cl).ownBlock) (hat : (Value.slice pl k cl).ownBlock = some ga ∨ w.heap.size ≤ ga) (hgl : ga < wa.heap.size)
    (ob : wb.ownsRow M 44 1 (.slice (some ⟨gb, 0, none⟩) (k + 1) cb) (k + 1) (vw ++ [v])) (hgb : wa.grownBy wb (Value.slice pw k cw).ownBlock) (hbt : (Value.slice pw k cw).ownBlock = some gb ∨ wa.heap.size ≤ gb) :
    PL M a0 l0 wb (k + 1) (some ⟨ga, 0, none⟩) ca (some ⟨gb, 0, none⟩) cb (rs ++ [R]) (lss ++ [l]) (vw ++ [v]) := by
  have k1 : ls.SK 57 w wa := ls.SK.own (by decide) h.ownl hga
  have ow : wa.ownsRow M 44 1 (.slice pw k cw) k vw := own_other h.ownw hga fun g hg e => h.apart g e hg
  have k2 : ls.SK 57 wa wb := ls.SK.own (by decide) ow hgb
  have kk := k1.trans k2
  have hne : ∀ g, (Value.slice pw k cw).ownBlock = some g → g ≠ ga := by
    rintro g hg rfl
    rcases hat with h1 | h1
    · exact h.apart g h1 hg
    · have := (h.ownw.lt g hg).2; omega
  have ol : wb.ownsRow M 44 1 (.slice (some ⟨ga, 0, none⟩) (k + 1) ca) (k + 1) (rs.map ls.LR.v ++ [R.v]) := own_other oa hgb fun g hg e => hne g e (by cases hg; rfl)
  have hrl : rs.length = k := by have := h.ownl.1; simpa using this
  have hvl : vw.length = k := by have := h.ownw.1; simpa using this
  refine ⟨by rw [List.map_append]; exact ol, ob, ?_, by rw [List.length_append, h.len]; rfl, ?_, ?_, ?_⟩
  · intro g hg e
    cases hg
    cases e
    rcases hbt with h1 | h1
    · exact hne _ h1 rfl
    · omega
  · intro i j Ri Rj g hi hj hpi hpj
    rcases ls.get_snoc hi with hi2 | ⟨e1, e2⟩
    · rcases ls.get_snoc hj with hj2 | ⟨e3, e4⟩
      · exact h.dist i j Ri Rj g hi2 hj2 hpi hpj
      · rw [e4] at hpj
        exact absurd hpj (hRd i Ri g hi2 hpi)
    · rcases ls.get_snoc hj with hj2 | ⟨e3, e4⟩
      · rw [e2] at hpi
        exact absurd hpi (hRd j Rj g hj2 hpj)
      · rw [e1, e3]
  · intro i S ys hS hy
    rcases ls.get_snoc hS with hS | ⟨rfl, rfl⟩
    · rcases ls.get_snoc hy with hy | ⟨h1, rfl⟩
      · exact ⟨(h.news i S ys hS hy).1.keep kk, (h.news i S ys hS hy).2⟩
      · have := ls.lt_get hS; rw [h.len] at h1; omega
    · rcases ls.get_snoc hy with hy | ⟨h1, rfl⟩
      · have := ls.lt_get hy; rw [h.len] at this; omega
      · exact ⟨hR.keep kk, hRn⟩
  · intro i u ys hu hy
    rcases ls.get_snoc hu with hu | ⟨rfl, rfl⟩
    · rcases ls.get_snoc hy with hy | ⟨h1, rfl⟩
      · exact (h.wants i u ys hu hy).keep kk
      · have := ls.lt_get hu; rw [h.len] at h1; omega
    · rcases ls.get_snoc hy with hy | ⟨h1, rfl⟩
      · have := ls.lt_get hy; rw [h.len] at this; omega
      · exact hvx.keep kk
/-- The rows, as blocks. -/
theorem PL.rowL {M : Nat} {a0 : Value} {l0 : List Pr} {w : World} {k cl cw : Nat} {pl pw : Option Addr} {rs : List ls.LR} {lss : List (List Pr)} {vw : List Value} (h : PL M a0 l0 w k pl cl pw cw rs lss vw) (hk : 0 < k) :
    ∃ gl, pl = some ⟨gl, 0, none⟩ ∧ k ≤ cl ∧ M ≤ gl ∧ ls.LRow 44 w gl rs := by
  have hrl : rs.length = k := by have := h.ownl.1; simpa using this
  rcases h.ownl.2 with ⟨_, h0⟩ | ⟨gl, cap, cur, hv, hg, hbl, hnc, _, _, htake⟩
  · omega
  · cases hv
    refine ⟨gl, rfl, hnc, hg, cur, hbl, fun i R hR => ?_⟩
    have h1 : (rs.map ls.LR.v)[i]? = some R.v := by rw [List.getElem?_map, hR]; rfl
    have := ls.lt_get hR
    rw [← htake, List.getElem?_take_of_lt (by omega)] at h1
    rwa [Array.getElem?_toList] at h1
theorem PL.rowW {M : Nat} {a0 : Value} {l0 : List Pr} {w : World} {k cl cw : Nat} {pl pw : Option Addr} {rs : List ls.LR} {lss : List (List Pr)} {vw : List Value} (h : PL M a0 l0 w k pl cl pw cw rs lss vw) (hk : 0 < k) (h0 : Prs w a0 l0) :
    ∃ gw, pw = some ⟨gw, 0, none⟩ ∧ k ≤ cw ∧ gw < w.heap.size ∧ ∀ (i : Nat) (l : List Pr), lss[i]? = some l → ∃ p c, w.cell? ⟨gw, i, none⟩ = some (.slice p l.length c) ∧ Prs w (.slice p l.length c) l := by
  have hvl : vw.length = k := by have := h.ownw.1; simpa using this
  rcases h.ownw.2 with ⟨_, hz⟩ | ⟨gw, capw, curw, hvw, _, hbw, hncw, _⟩
  · omega
  · cases hvw
    refine ⟨gw, rfl, hncw, lt_of_block hbw, fun i l hx => ?_⟩
    have hi := ls.lt_get hx
    rw [h.len] at hi
    obtain ⟨v, hv⟩ : ∃ v, vw[i]? = some v := ⟨_, List.getElem?_eq_getElem (by omega)⟩
    have hs := h.wants i v l hv hx
    have hc := h.ownw.cells (g := gw) rfl i v hv
    rw [ls.addN, Nat.zero_add] at hc
    obtain ⟨p, c, rfl⟩ := (hs.prs h0).form
    exact ⟨p, c, hc, hs.prs h0⟩
theorem PL.holds {M : Nat} {a0 : Value} {l0 : List Pr} {w : World} {k cl cw : Nat} {pl pw : Option Addr} {rs : List ls.LR} {lss : List (List Pr)} {vw : List Value} {mk : Nat → List Value} (h : PL M a0 l0 w k pl cl pw cw rs lss vw) : ls.Hold 57 3 mk M w.heap.size w rs 0 (ls.cntAt 0 0) := by
  intro i R _ hR
  have hrl : rs.length = k := by have := h.ownl.1; simpa using this
  have hi := ls.lt_get hR
  obtain ⟨xs, hx⟩ : ∃ xs, lss[i]? = some xs := ⟨_, List.getElem?_eq_getElem (by rw [h.len]; omega)⟩
  obtain ⟨h1, h2⟩ := h.news i R xs hR hx
  refine h1.hold h2 ?_
  unfold ls.cntAt
  rw [if_neg (by omega)]
  split <;> rfl
theorem PL.lists {M : Nat} {a0 : Value} {l0 : List Pr} {w : World} {k cl cw : Nat} {pl pw : Option Addr} {rs : List ls.LR} {lss : List (List Pr)} {vw : List Value} (h : PL M a0 l0 w k pl cl pw cw rs lss vw) (i : Nat) (R : ls.LR) (l : List Pr) (h1 : rs[i]? = some R) (h2 : lss[i]? = some l) : Prs w R.v l := (h.news i R l h1 h2).1.rw prC_len
end Go.Proofs.YthjcifokmcbaoaaGreatDoor.st
