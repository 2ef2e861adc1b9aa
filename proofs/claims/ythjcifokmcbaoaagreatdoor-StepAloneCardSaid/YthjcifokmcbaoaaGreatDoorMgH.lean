/- Laws and contracts on which the statement rests, part H: each text says what it proves, and its conditions. -/
import Derived.Test.YthjcifokmcbaoaaGreatDoorMgG
import Derived.Laws.StructEq
import Derived.Deep.RegionHeld3
import Derived.Laws.Rows
import Derived.Deep.Slices
import Derived.Deep.Fields
import Derived.ChangeSame
import Derived.Carry
import Derived.Test.YthjcifokmcbaoaaGreatDoorMgB
import Derived.Lib.SmallJoins
import Derived.Deep.Strs
import Derived.Test.YthjcifokmcbaoaaGreatDoorMgC
import Derived.Deep.DeepCutAuto
/- Two pairs held against each other; law 16's same. Conditions: lists of at most 4294967295 pairs. -/
namespace Go.Proofs.YthjcifokmcbaoaaGreatDoor.st
open Go.ChangeShapes Go.WideShapes Go.ChangeAt Go.RowKit gl ls

theorem prFields : (Tryz.prog.fieldsOf 57).toList.map (fun f => (decide (f.name ≠ "_"), f.type, f.offset)) = [(true, 9, 0), (true, 9, 1), (true, 9, 2)] := by kernel_rfl
theorem three_fields {l : List Field} {t0 t1 t2 : TypeId} (h : l.map (fun f => (decide (f.name ≠ "_"), f.type, f.offset)) = [(true, t0, 0), (true, t1, 1), (true, t2, 2)]) :
    ∃ f0 f1 f2 : Field, l = [f0, f1, f2] ∧ f0.name ≠ "_" ∧ f0.type = t0 ∧ f0.offset = 0 ∧ f1.name ≠ "_" ∧ f1.type = t1 ∧ f1.offset = 1 ∧ f2.name ≠ "_" ∧ f2.type = t2 ∧ f2.offset = 2 := by
  obtain ⟨f0, r0, rfl, h0, h⟩ := List.map_eq_cons_iff.1 h
  obtain ⟨f1, r1, rfl, h1, h⟩ := List.map_eq_cons_iff.1 h
  obtain ⟨f2, r2, rfl, h2, h⟩ := List.map_eq_cons_iff.1 h
  obtain rfl := List.map_eq_nil_iff.1 h
  simp only [Prod.mk.injEq, decide_eq_true_eq] at h0 h1 h2
  exact ⟨f0, f1, f2, rfl, h0.1, h0.2.1, h0.2.2, h1.1, h1.2.1, h1.2.2, h2.1, h2.2.1, h2.2.2⟩
set_option maxRecDepth 100000 in
theorem neq_pr (a b c a2 b2 c2 : ByteArray) (w : World) :
    (binOp .neq 57 (.agg #[.string a, .string b, .string c]) (.agg #[.string a2, .string b2, .string c2])).run Tryz.prog w = .ok (.bool (!((a.toList == a2.toList) && ((b.toList == b2.toList) && (c.toList == c2.toList))))) w := by
  have hs : Tryz.prog.underlying 9 = some .string := Tryz.underlying9
  have hc : Tryz.prog.cellsOf 9 = 1 := by kernel_rfl
  obtain ⟨f0, f1, f2, hf, n0, t0, o0, n1, t1, o1, n2', t2, o2⟩ := three_fields prFields
  rw [run_neq_struct, run_equalIn_struct w 9999 57 _ _ Tryz.underlying57 (by kernel_rfl), hf]
  simp only [Op.eqFields, n0, n1, n2', t0, t1, t2, o0, o1, o2, ne_eq, not_false_eq_true, if_true]
  cases h1 : (a.toList == a2.toList) <;> cases h2 : (b.toList == b2.toList) <;> cases h3 : (c.toList == c2.toList) <;> simp [go_sem, part, hs, h1, h2, h3]
  all_goals trace_state
set_option maxRecDepth 100000 in
theorem eql_pr (a b c a2 b2 c2 : ByteArray) (w : World) :
    (binOp .eql 57 (.agg #[.string a, .string b, .string c]) (.agg #[.string a2, .string b2, .string c2])).run Tryz.prog w = .ok (.bool ((a.toList == a2.toList) && ((b.toList == b2.toList) && (c.toList == c2.toList)))) w := by
  have hs : Tryz.prog.underlying 9 = some .string := Tryz.underlying9
  have hc : Tryz.prog.cellsOf 9 = 1 := by kernel_rfl
  obtain ⟨f0, f1, f2, hf, n0, t0, o0, n1, t1, o1, n2', t2, o2⟩ := three_fields prFields
  rw [run_eql_struct, run_equalIn_struct w 9999 57 _ _ Tryz.underlying57 (by kernel_rfl), hf]
  simp only [Op.eqFields, n0, n1, n2', t0, t1, t2, o0, o1, o2, ne_eq, not_false_eq_true, if_true]
  cases h1 : (a.toList == a2.toList) <;> cases h2 : (b.toList == b2.toList) <;> cases h3 : (c.toList == c2.toList) <;> simp [go_sem, part, hs, h1, h2, h3]
  all_goals trace_state
theorem pr_same (x y : Pr) (h : x = y) : (!(((B x.table).toList == (B y.table).toList) && (((B x.key).toList == (B y.key).toList) && ((B x.value).toList == (B y.value).toList)))) = false := by
  subst h
  simp
set_option maxHeartbeats 2000000 in
set_option maxRecDepth 100000 in
theorem same_any (p p' : Option Addr) (m m' c c' : Nat) (l l' : List Pr) (hl : m ≤ 4294967295) (hl' : m' ≤ 4294967295) (w : World) (h : Prs w (.slice p m c) l) (h' : Prs w (.slice p' m' c') l') :
    Calls Tryz.prog 37 #[.slice p m c, .slice p' m' c'] w fun e w' => ∃ r : Bool, e = .returned (.bool r) ∧ (l = l' → r = true) ∧ ∃ q, w' = w.drewN q := by
  obtain ⟨hlen, hmc, hptr⟩ := h.ptr
  obtain ⟨hlen', hmc', hptr'⟩ := h'.ptr
  have HS := Lib.hid h
  have HS' := Lib.hid h'
  have Hlen := Lib.hid hlen
  have Hlen' := Lib.hid hlen'
  have Hptr := Lib.hid hptr
  have Hptr' := Lib.hid hptr'
  clear h h' hlen hlen' hptr hptr'
  by_cases hmm : m = m'
  · subst hmm
    go_enter Tryz.func37, Tryz.ntmps37
    go_wp2_with fail
    go_loopw [5] (fun i wr => ∃ j q : Nat, j ≤ m ∧ i = .int .i64 j ∧ wr = w.drewN q) (fun i _ => m - (intOf i).toNat)
    case atStart => exact ⟨0, 0, by omega, rfl, rfl⟩
    case round =>
      obtain ⟨j, q, hj, rfl, rfl⟩ := hrel
      by_cases hlt : j < m
      · obtain ⟨b, o, rfl, hbl⟩ := Hptr.out (by omega)
        obtain ⟨b', o', rfl, hbl'⟩ := Hptr'.out (by omega)
        obtain ⟨x, hx⟩ : ∃ x, l[j]? = some x := ⟨_, List.getElem?_eq_getElem (by rw [Hlen.out]; exact hlt)⟩
        obtain ⟨y, hy⟩ : ∃ y, l'[j]? = some y := ⟨_, List.getElem?_eq_getElem (by rw [Hlen'.out]; exact hlt)⟩
        obtain ⟨c0, c1, c2⟩ := prs_cells HS.out hx
        obtain ⟨d0, d1, d2⟩ := prs_cells HS'.out hy
        have hne := neq_pr (B x.table) (B x.key) (B x.value) (B y.table) (B y.key) (B y.value)
        have Hs : Hid (l = l' → (!(((B x.table).toList == (B y.table).toList) && (((B x.key).toList == (B y.key).toList) && ((B x.value).toList == (B y.value).toList)))) = false) := Lib.hid fun e => pr_same x y (by rw [e, hy] at hx; exact (Option.some.inj hx).symm)
        clear hx hy
        generalize (!(((B x.table).toList == (B y.table).toList) && (((B x.key).toList == (B y.key).toList) && ((B x.value).toList == (B y.value).toList)))) = t at *
        generalize B x.table = n1 at *
        generalize B y.table = n2 at *
        generalize B x.key = x1 at *
        generalize B y.key = x2 at *
        generalize B x.value = u1 at *
        generalize B y.value = u2 at *
        replace c0 : (w.drewN q).cell? ⟨b, o + j * 3, none⟩ = some (.string n1) := c0
        replace c1 : (w.drewN q).cell? ⟨b, o + j * 3 + 1, none⟩ = some (.string x1) := c1
        replace c2 : (w.drewN q).cell? ⟨b, o + j * 3 + 2, none⟩ = some (.string u1) := c2
        replace d0 : (w.drewN q).cell? ⟨b', o' + j * 3, none⟩ = some (.string n2) := d0
        replace d1 : (w.drewN q).cell? ⟨b', o' + j * 3 + 1, none⟩ = some (.string x2) := d1
        replace d2 : (w.drewN q).cell? ⟨b', o' + j * 3 + 2, none⟩ = some (.string u2) := d2
        generalize hq : w.drewN q = wr at *
        have Hq := Lib.hid hq
        clear hq
        cases t with
        | false =>
          go_wp2_with fail
          go_quiet (fail)
          go_wp2_with fail
          go_roundw
          case rel => exact ⟨j + 1, _, by omega, by go_num, by rw [← Hq.out, World.drewN_drewN]⟩
          case measure => simp [intOf]; omega
        | true =>
          go_wp2_with fail
          go_quiet (fail)
          go_wp2_with fail
          go_ret
          exact ⟨false, rfl, fun e => absurd (Hs.out e) (by simp), _, by rw [← Hq.out, World.drewN_drewN]⟩
      · obtain rfl : j = m := by omega
        go_wp2_with fail
        go_ret
        exact ⟨true, rfl, fun _ => rfl, q, rfl⟩
  · have hmm' : ((m : Int) != (m' : Int)) = true := by simp; omega
    have hne : l ≠ l' := by rintro rfl; exact hmm (by rw [← Hlen.out, ← Hlen'.out])
    have Hne := Lib.hid hne
    clear hmm hne
    go_enter Tryz.func37, Tryz.ntmps37
    go_wp2_with fail
    go_ret
    exact ⟨false, rfl, fun e => absurd e Hne.out, 0, rfl⟩
end Go.Proofs.YthjcifokmcbaoaaGreatDoor.st
/- law 16: awake returns true. Condition: the listed variables hold what the program's text lays. -/
namespace Go.Proofs.YthjcifokmcbaoaaGreatDoor.st
open Go.ChangeShapes Go.WideShapes Go.ChangeAt Go.RowKit gl ls

def awL : List Pr := [⟨[97], [107], [49]⟩, ⟨[98], [107], [50]⟩]
def awS1 : Sp := ⟨6, [98], [107], [106], []⟩
def awS2 : Sp := ⟨4, [97], [], [98], []⟩
def awS3 : Sp := ⟨5, [98], [], [], [100, 111, 117, 98, 108, 101]⟩
def awR1 : List Pr := [⟨[97], [107], [49]⟩, ⟨[98], [106], [50]⟩, ⟨[98], [107], [50]⟩]
def awR3 : List Pr := [⟨[97], [107], [49]⟩, ⟨[98], [107], [52]⟩]
theorem aw1 : applyL awL awS1 = (awR1, 0) := by kernel_rfl
theorem aw2 : applyL awL awS2 = ([], 161) := by kernel_rfl
theorem aw3 : applyL awL awS3 = (awR3, 0) := by kernel_rfl
theorem aw4 : callL [116, 114, 105, 109] [32, 97, 32, 98, 32] = ([97, 32, 98], 0) := by kernel_rfl
theorem aw5 : callL [85, 112, 112, 101, 114] [97] = ([], 160) := by kernel_rfl
theorem aw6 : rightL ⟨2, [97], [], [], []⟩ = true := by kernel_rfl
theorem aw7 : rightL ⟨2, [97], [], [], [120]⟩ = false := by kernel_rfl
theorem awSz : ∀ x ∈ awL, PrSz x := by
  intro x hx
  simp only [awL, List.mem_cons, List.not_mem_nil, or_false] at hx
  rcases hx with rfl | rfl <;> exact ⟨by decide, by decide, by decide⟩
theorem aw_prs {w wA : World} (hA : wA = w.alloc (.cells #[.string ⟨#[97]⟩, .string ⟨#[107]⟩, .string ⟨#[49]⟩, .string ⟨#[98]⟩, .string ⟨#[107]⟩, .string ⟨#[50]⟩] 57)) : Prs wA (.slice (some ⟨w.heap.size, 0, none⟩) 2 2) awL := by
  have h2 := heap_alloc_new w (.cells #[.string ⟨#[97]⟩, .string ⟨#[107]⟩, .string ⟨#[49]⟩, .string ⟨#[98]⟩, .string ⟨#[107]⟩, .string ⟨#[50]⟩] 57)
  rw [← hA] at h2
  exact rw.rw_lit prC_len (l := awL) h2 rfl
set_option maxHeartbeats 4000000 in
set_option maxRecDepth 100000 in
theorem awake_any (w : World) (hS : Slo w) : Calls Tryz.prog 26 #[] w fun e w' => e = .returned (.bool true) ∧ Below w.heap.size w w' := by
  obtain ⟨wA, hA⟩ : ∃ wA, wA = w.alloc (.cells #[.string ⟨#[97]⟩, .string ⟨#[107]⟩, .string ⟨#[49]⟩, .string ⟨#[98]⟩, .string ⟨#[107]⟩, .string ⟨#[50]⟩] 57) := ⟨_, rfl⟩
  have hP := aw_prs hA
  have hbA : Below w.heap.size w wA := by rw [hA]; exact (Below.refl _ _).alloc (Nat.le_refl _) _
  have HSl := Lib.hid fun (W : World) (hb : Below wA.heap.size wA W) => (hS.later hbA).later hb
  have H1 := Lib.hid fun (W : World) (hb : Below wA.heap.size wA W) => Apply_any _ 2 2 awL awS1 (by omega) awSz ⟨by decide, by decide, by decide, by decide⟩ W (HSl.out W hb) (hP.later hb)
  have H2 := Lib.hid fun (W : World) (hb : Below wA.heap.size wA W) => Apply_any _ 2 2 awL awS2 (by omega) awSz ⟨by decide, by decide, by decide, by decide⟩ W (HSl.out W hb) (hP.later hb)
  have H3 := Lib.hid fun (W : World) (hb : Below wA.heap.size wA W) => Apply_any _ 2 2 awL awS3 (by omega) awSz ⟨by decide, by decide, by decide, by decide⟩ W (HSl.out W hb) (hP.later hb)
  have H4 := Lib.hid fun (W : World) (hb : Below wA.heap.size wA W) => Call_any (B [116, 114, 105, 109]) (B [32, 97, 32, 98, 32]) W (HSl.out W hb)
  have H5 := Lib.hid fun (W : World) (hb : Below wA.heap.size wA W) => Call_any (B [85, 112, 112, 101, 114]) (B [97]) W (HSl.out W hb)
  have H6 := Lib.hid fun (W : World) (hb : Below wA.heap.size wA W) => right_sp ⟨2, [97], [], [], []⟩ ⟨by decide, by decide, by decide, by decide⟩ W (HSl.out W hb)
  have H7 := Lib.hid fun (W : World) (hb : Below wA.heap.size wA W) => right_sp ⟨2, [97], [], [], [120]⟩ ⟨by decide, by decide, by decide, by decide⟩ W (HSl.out W hb)
  rw [aw1] at H1
  rw [aw2] at H2
  rw [aw3] at H3
  simp only [aw4, callV] at H4
  simp only [aw5, callV] at H5
  rw [aw6] at H6
  rw [aw7] at H7
  have HA := Lib.hid hA
  have HbA := Lib.hid hbA
  have Q1 : Hid (∀ W : World, (binOp .eql 57 (.agg #[.string ⟨#[98]⟩, .string ⟨#[106]⟩, .string ⟨#[50]⟩]) (.agg #[.string ⟨#[98]⟩, .string ⟨#[106]⟩, .string ⟨#[50]⟩])).run Tryz.prog W = .ok (.bool true) W) := Lib.hid fun W => by rw [eql_pr]; simp
  clear hA hbA hP hS
  go_enter Tryz.func26, Tryz.ntmps26
  go_wp2_with fail
  rw [← HA.out]
  refine (H1.out _ (Below.refl _ _)).mono ?_
  rintro e w1 ⟨⟨v1, rfl, h1⟩, hb1⟩
  obtain ⟨p1, c1, hv1⟩ := h1.form
  change v1 = .slice p1 3 c1 at hv1
  subst hv1
  obtain ⟨b1, o1, rfl, _⟩ := (h1.rw prC_len).ptr.2.2 (by omega)
  have HP1 := Lib.hid (h1.rw prC_len)
  have HB1 := Lib.hid hb1
  clear h1 hb1
  go_wp2_with fail
  refine (H2.out _ HB1.out).mono ?_
  rintro e w2 ⟨⟨v2, rfl, h2⟩, hb2⟩
  obtain ⟨p2, c2, hv2⟩ := h2.form
  change v2 = .slice p2 0 c2 at hv2
  subst hv2
  have HB2 := Lib.hid (then_bel HB1.out hb2)
  have HP12 := Lib.hid (HP1.out.later hb2)
  clear h2 hb2 HP1
  go_wp2_with fail
  refine (H3.out _ HB2.out).mono ?_
  rintro e w3 ⟨⟨v3, rfl, h3⟩, hb3⟩
  obtain ⟨p3, c3, hv3⟩ := h3.form
  change v3 = .slice p3 2 c3 at hv3
  subst hv3
  obtain ⟨b3, o3, rfl, _⟩ := (h3.rw prC_len).ptr.2.2 (by omega)
  have HP3 := Lib.hid (h3.rw prC_len)
  have HB3 := Lib.hid (then_bel HB2.out hb3)
  have HP13 := Lib.hid (HP12.out.later hb3)
  clear h3 hb3 HP12
  go_wp2_with fail
  refine (H4.out _ HB3.out).mono ?_
  rintro e w4 ⟨rfl, hb4⟩
  have HB4 := Lib.hid (then_bel HB3.out hb4)
  have HD4 := Lib.hid hb4
  clear hb4
  go_wp2_with fail
  refine (H5.out _ HB4.out).mono ?_
  rintro e w5 ⟨rfl, hb5⟩
  have HB5 := Lib.hid (then_bel HB4.out hb5)
  have HD5 := Lib.hid (then_bel HD4.out hb5)
  clear hb5
  go_wp2_with fail
  refine (H6.out _ HB5.out).mono ?_
  rintro e w6 ⟨rfl, hb6⟩
  have HB6 := Lib.hid (then_bel HB5.out hb6)
  have HD6 := Lib.hid (then_bel HD5.out hb6)
  clear hb6
  go_wp2_with fail
  refine (H7.out _ HB6.out).mono ?_
  rintro e w7 ⟨rfl, hb7⟩
  have HB7 := Lib.hid (then_bel HB6.out hb7)
  have hd7 := then_bel HD6.out hb7
  obtain ⟨e0, e1, e2⟩ := prs_cells (HP13.out.later hd7) (j := 1) rfl
  obtain ⟨_, _, f2⟩ := prs_cells (HP3.out.later hd7) (j := 1) rfl
  simp only at e0 e1 e2 f2
  have q1 := Q1.out
  clear hb7 hd7
  go_wp2_with fail
  go_ret
  exact ⟨rfl, HbA.out.trans (HB7.out.mono HbA.out.size)⟩
end Go.Proofs.YthjcifokmcbaoaaGreatDoor.st
/- StepRights returns true. Conditions: at most 9223372036854775807 steps; the listed variables hold what the program's text lays. -/
namespace Go.Proofs.YthjcifokmcbaoaaGreatDoor.st
open Go.ChangeShapes Go.WideShapes Go.ChangeAt Go.RowKit gl ls

theorem f5_drew {w0 wp : World} {b o : Nat} {x0 x1 x2 x3 x4 : Value} (h : wp.cell? ⟨b, o, none⟩ = some x0 ∧ wp.cell? ⟨b, o + 1, none⟩ = some x1 ∧ wp.cell? ⟨b, o + 2, none⟩ = some x2 ∧ wp.cell? ⟨b, o + 3, none⟩ = some x3 ∧ wp.cell? ⟨b, o + 4, none⟩ = some x4 ∧ Hid (Below w0.heap.size w0 wp)) :
    wp.drew.cell? ⟨b, o, none⟩ = some x0 ∧ wp.drew.cell? ⟨b, o + 1, none⟩ = some x1 ∧ wp.drew.cell? ⟨b, o + 2, none⟩ = some x2 ∧ wp.drew.cell? ⟨b, o + 3, none⟩ = some x3 ∧ wp.drew.cell? ⟨b, o + 4, none⟩ = some x4 ∧ Hid (Below w0.heap.size w0 wp.drew) := ⟨h.1, h.2.1, h.2.2.1, h.2.2.2.1, h.2.2.2.2.1, Lib.hid h.2.2.2.2.2.out.drew⟩
theorem f5_of {w0 w' : World} {b o : Nat} {x0 x1 x2 x3 x4 : Value} (h0 : w0.cell? ⟨b, o, none⟩ = some x0) (h1 : w0.cell? ⟨b, o + 1, none⟩ = some x1) (h2 : w0.cell? ⟨b, o + 2, none⟩ = some x2) (h3 : w0.cell? ⟨b, o + 3, none⟩ = some x3) (h4 : w0.cell? ⟨b, o + 4, none⟩ = some x4) (hb : Below w0.heap.size w0 w') :
    w'.cell? ⟨b, o, none⟩ = some x0 ∧ w'.cell? ⟨b, o + 1, none⟩ = some x1 ∧ w'.cell? ⟨b, o + 2, none⟩ = some x2 ∧ w'.cell? ⟨b, o + 3, none⟩ = some x3 ∧ w'.cell? ⟨b, o + 4, none⟩ = some x4 ∧ Hid (Below w0.heap.size w0 w') :=
  ⟨cell_then h0 hb, cell_then h1 hb, cell_then h2 hb, cell_then h3 hb, cell_then h4 hb, Lib.hid hb⟩
theorem f5_bel {w0 wp : World} {b o : Nat} {x0 x1 x2 x3 x4 : Value} (h : wp.cell? ⟨b, o, none⟩ = some x0 ∧ wp.cell? ⟨b, o + 1, none⟩ = some x1 ∧ wp.cell? ⟨b, o + 2, none⟩ = some x2 ∧ wp.cell? ⟨b, o + 3, none⟩ = some x3 ∧ wp.cell? ⟨b, o + 4, none⟩ = some x4 ∧ Hid (Below w0.heap.size w0 wp)) : Hid (Below w0.heap.size w0 wp) := h.2.2.2.2.2
set_option maxHeartbeats 4000000 in
set_option maxRecDepth 100000 in
theorem stepRights_any (p : Option Addr) (c : Nat) (l : List Sp) (hm : l.length ≤ 9223372036854775807) (w : World) (h : Sps w (.slice p l.length c) l) (hS : Slo w) :
    Calls Tryz.prog 4 #[.slice p l.length c] w fun e w' => e = .returned (.bool true) ∧ Below w.heap.size w w' := by
  obtain ⟨_, hmc, hptr⟩ := h.ptr
  have HW := Lib.hid (stepsWeigh_any p l.length c l hm w h)
  have HAw := Lib.hid fun (W : World) (hb : Below w.heap.size w W) => awake_any W (hS.later hb)
  have HR := Lib.hid fun (s : Sp) (hs : SpSz s) (W : World) (hb : Below w.heap.size w W) => right_sp s hs W (hS.later hb)
  have HR2 := Lib.hid fun (s : Sp) (hs : SpSz s) (W : World) => right_ref s hs W
  unfold spA at HR HR2
  have HL := Lib.hid h
  have HP := Lib.hid hptr
  obtain ⟨m, hlen⟩ : ∃ m, m = l.length := ⟨_, rfl⟩
  rw [← hlen] at hm hmc HW HL HP ⊢
  have Hlen := Lib.hid hlen
  clear h hptr hlen hS
  go_enter Tryz.func4, Tryz.ntmps4
  go_wp2_with fail
  refine HW.out.mono ?_
  rintro e w1 ⟨⟨N, rfl, hN⟩, hb1⟩
  have HB1 := Lib.hid hb1
  have HN := Lib.hid hN
  clear hb1 hN
  by_cases hbig : 2147483647 < N
  · have q1 : decide (2147483647 < N) = true := by rw [decide_eq_true_iff]; exact hbig
    go_wp2_with fail
    go_ret
    exact ⟨rfl, HB1.out⟩
  · have q1 : decide (2147483647 < N) = false := by rw [decide_eq_false_iff_not]; exact hbig
    have HZ := Lib.hid (HN.out.2.2 (by omega)).2
    go_wp2_with fail
    refine (HAw.out _ HB1.out).mono ?_
    rintro e w2 ⟨rfl, hb2⟩
    have HB2 := Lib.hid (then_bel HB1.out hb2)
    clear hb2
    go_wp2_with fail
    go_loopw [4] (fun i wr => ∃ k : Nat, k ≤ m ∧ i = .int .i64 k ∧ Hid (Below w.heap.size w wr)) (fun i _ => m - (intOf i).toNat)
    case atStart => exact ⟨0, by omega, rfl, HB2⟩
    case round =>
      obtain ⟨k, hk, rfl, Hb⟩ := hrel
      by_cases hlt : k < m
      · obtain ⟨b, o, rfl, hbl⟩ := HP.out (by omega)
        obtain ⟨x, hx⟩ : ∃ x, l[k]? = some x := ⟨_, List.getElem?_eq_getElem (by rw [← Hlen.out]; exact hlt)⟩
        obtain ⟨e0, e1, e2, e3, e4⟩ := sps_cells (HL.out.later Hb.out) hx
        have hki : (k : Int) < (m : Int) := by omega
        have hk5 : (0 : Int) ≤ (k : Int) := by omega
        have HQ := Lib.hid (HR.out x (HZ.out x (List.mem_of_getElem? hx)))
        have HQ2 := Lib.hid (HR2.out x (HZ.out x (List.mem_of_getElem? hx)))
        clear hx
        generalize rightL x = r at *
        generalize B x.table = y1 at *
        generalize B x.key = y2 at *
        generalize B x.to = y3 at *
        generalize B x.text = y4 at *
        have HQ' := Lib.hid fun (W : World) (hb : Hid (Below wr.heap.size wr W)) => HQ.out W (Hb.out.trans (hb.out.mono Hb.out.size))
        have hSt := f5_of e0 e1 e2 e3 e4 (Below.refl _ wr)
        have qr : (r != r) = false := by simp
        go_wp2_with fail
        go_region_held3 (fun w' => w'.cell? ⟨b, o + k * 5, none⟩ = some (.int .i64 x.kind) ∧ w'.cell? ⟨b, o + k * 5 + 1, none⟩ = some (.string y1) ∧ w'.cell? ⟨b, o + k * 5 + 2, none⟩ = some (.string y2) ∧ w'.cell? ⟨b, o + k * 5 + 3, none⟩ = some (.string y3) ∧ w'.cell? ⟨b, o + k * 5 + 4, none⟩ = some (.string y4) ∧ Hid (Below wr.heap.size wr w'))
          (first | assumption | (with_reducible exact f5_drew (by assumption)))
          (first
            | ((go_at_call 27; (with_reducible refine Calls.mono (HQ'.out _ (f5_bel (by assumption))) ?_); rintro e w' ⟨rfl, hb⟩; have hS' := f5_of e0 e1 e2 e3 e4 (then_bel (f5_bel (by assumption)).out hb); clear hb))
            | ((go_at_call 28; (with_reducible refine Calls.mono (HQ2.out _) ?_); rintro e w' ⟨rfl, hb⟩; have hS' := f5_of e0 e1 e2 e3 e4 (then_bel (f5_bel (by assumption)).out hb); clear hb)))
        all_goals
          rename_i hH
          have hbH := Lib.hid hH.2.2.2.2.2.out
          clear hH hSt e0 e1 e2 e3 e4
          go_wp2_with fail
          go_roundw
          case rel => exact ⟨k + 1, by omega, by go_num, Lib.hid (Hb.out.trans (hbH.out.mono Hb.out.size))⟩
          case measure => simp [intOf]; omega
      · obtain rfl : k = m := by omega
        go_wp2_with fail
        go_ret
        exact ⟨rfl, Hb.out⟩
end Go.Proofs.YthjcifokmcbaoaaGreatDoor.st
/- Lists of texts in memory; law 16's texts; step.Functions. Conditions: lists of at most 4294967295 texts. -/
namespace Go.Proofs.YthjcifokmcbaoaaGreatDoor.st
open Go.ChangeShapes Go.WideShapes Go.ChangeAt Go.RowKit gl ls

def txC (x : List UInt8) : List Value := [.string (B x)]
theorem txC_len (x : List UInt8) : (txC x).length = 1 := rfl
theorem txC_one : ∀ (x : List UInt8), ∀ v ∈ txC x, v.oneCell' = true := by
  intro x v hv
  simp only [txC, List.mem_cons, List.not_mem_nil, or_false] at hv
  subst hv
  rfl
abbrev Txt (w : World) (v : Value) (l : List (List UInt8)) : Prop := rw.Rw txC 1 w v l
theorem txt_cell {w : World} {b o n c : Nat} {l : List (List UInt8)} (h : Txt w (.slice (some ⟨b, o, none⟩) n c) l) {j : Nat} {x : List UInt8} (hx : l[j]? = some x) : w.cell? ⟨b, o + j, none⟩ = some (.string (B x)) := by
  have := rw.Rw.cell h hx (i := 0) rfl
  rwa [Nat.mul_one, Nat.add_zero] at this
set_option maxHeartbeats 2000000 in
set_option maxRecDepth 100000 in
theorem texts_any (p p' : Option Addr) (m m' c c' : Nat) (l l' : List (List UInt8)) (hl : m ≤ 4294967295) (hl' : m' ≤ 4294967295) (w : World) (h : Txt w (.slice p m c) l) (h' : Txt w (.slice p' m' c') l') :
    Calls Tryz.prog 40 #[.slice p m c, .slice p' m' c'] w fun e w' => ∃ r : Bool, e = .returned (.bool r) ∧ (l = l' → r = true) ∧ ∃ q, w' = w.drewN q := by
  obtain ⟨hlen, hmc, hptr⟩ := h.ptr
  obtain ⟨hlen', hmc', hptr'⟩ := h'.ptr
  have HS := Lib.hid h
  have HS' := Lib.hid h'
  have Hlen := Lib.hid hlen
  have Hlen' := Lib.hid hlen'
  have Hptr := Lib.hid hptr
  have Hptr' := Lib.hid hptr'
  clear h h' hlen hlen' hptr hptr'
  by_cases hmm : m = m'
  · subst hmm
    go_enter Tryz.func40, Tryz.ntmps40
    go_wp2_with fail
    go_loopw [5] (fun i wr => ∃ j q : Nat, j ≤ m ∧ i = .int .i64 j ∧ wr = w.drewN q) (fun i _ => m - (intOf i).toNat)
    case atStart => exact ⟨0, 0, by omega, rfl, rfl⟩
    case round =>
      obtain ⟨j, q, hj, rfl, rfl⟩ := hrel
      by_cases hlt : j < m
      · obtain ⟨b, o, rfl, hbl⟩ := Hptr.out (by omega)
        obtain ⟨b', o', rfl, hbl'⟩ := Hptr'.out (by omega)
        obtain ⟨x, hx⟩ : ∃ x, l[j]? = some x := ⟨_, List.getElem?_eq_getElem (by rw [Hlen.out]; exact hlt)⟩
        obtain ⟨y, hy⟩ : ∃ y, l'[j]? = some y := ⟨_, List.getElem?_eq_getElem (by rw [Hlen'.out]; exact hlt)⟩
        have c0 := txt_cell HS.out hx
        have d0 := txt_cell HS'.out hy
        have Hs : Hid (l = l' → (!((B x).toList == (B y).toList)) = false) := Lib.hid fun e => by rw [e, hy] at hx; obtain rfl := Option.some.inj hx; simp
        clear hx hy
        have hk1 : (j : Int) < (m : Int) := by omega
        have hk5 : (0 : Int) ≤ (j : Int) := by omega
        cases ht : ((B x).toList == (B y).toList) with
        | true =>
          generalize B x = n1 at *
          generalize B y = n2 at *
          replace c0 : (w.drewN q).cell? ⟨b, o + j, none⟩ = some (.string n1) := c0
          replace d0 : (w.drewN q).cell? ⟨b', o' + j, none⟩ = some (.string n2) := d0
          generalize hq : w.drewN q = wr at *
          have Hq := Lib.hid hq
          clear hq
          go_wp2_with fail
          go_quiet (fail)
          go_wp2_with fail
          go_roundw
          case rel => exact ⟨j + 1, _, by omega, by go_num, by rw [← Hq.out, World.drewN_drewN]⟩
          case measure => simp [intOf]; omega
        | false =>
          rw [ht] at Hs
          generalize B x = n1 at *
          generalize B y = n2 at *
          replace c0 : (w.drewN q).cell? ⟨b, o + j, none⟩ = some (.string n1) := c0
          replace d0 : (w.drewN q).cell? ⟨b', o' + j, none⟩ = some (.string n2) := d0
          generalize hq : w.drewN q = wr at *
          have Hq := Lib.hid hq
          clear hq
          go_wp2_with fail
          go_quiet (fail)
          go_wp2_with fail
          go_ret
          exact ⟨false, rfl, fun e => absurd (Hs.out e) (by simp), _, by rw [← Hq.out, World.drewN_drewN]⟩
      · obtain rfl : j = m := by omega
        go_wp2_with fail
        go_ret
        exact ⟨true, rfl, fun _ => rfl, q, rfl⟩
  · have hmm' : ((m : Int) != (m' : Int)) = true := by simp; omega
    have hne : l ≠ l' := by rintro rfl; exact hmm (by rw [← Hlen.out, ← Hlen'.out])
    have Hne := Lib.hid hne
    clear hmm hne
    go_enter Tryz.func40, Tryz.ntmps40
    go_wp2_with fail
    go_ret
    exact ⟨false, rfl, fun e => absurd e Hne.out, 0, rfl⟩
def nmL : List (List UInt8) := [nDouble, nLower, nReverse, nTrim, nUpper]
theorem nm_cells : rw.flat txC nmL = namesL := rfl
theorem functions_any (w : World) (hS : Slo w) : Calls Tryz.prog 39 #[] w fun e w' => ∃ v, e = .returned v ∧ w'.ownsRow w.heap.size 9 1 v 5 namesL ∧ Below w.heap.size w w' := by
  have hc := hS.names
  have HC := Lib.hid (Tryz.slices_Clone_string 0 0 5 5 (nmL.map B) w (by decide) (by decide) (fun j hj => by
    have hj5 : j < 5 := hj
    match j, hj5 with
    | 0, _ => exact hc 0 _ rfl
    | 1, _ => exact hc 1 _ rfl
    | 2, _ => exact hc 2 _ rfl
    | 3, _ => exact hc 3 _ rfl
    | 4, _ => exact hc 4 _ rfl))
  clear hc hS
  go_enter Tryz.func39, Tryz.ntmps39
  go_wp2_with fail
  refine HC.out.mono ?_
  rintro e w1 ⟨v, rfl, ho, _, hb⟩
  have HO := Lib.hid ho
  have Hb := Lib.hid hb
  clear ho hb
  go_wp2_with fail
  go_ret
  exact ⟨_, rfl, HO.out, Hb.out⟩
end Go.Proofs.YthjcifokmcbaoaaGreatDoor.st
/- StepStands returns true. Condition: the listed variables hold what the program's text lays. -/
namespace Go.Proofs.YthjcifokmcbaoaaGreatDoor.st
open Go.ChangeShapes Go.WideShapes Go.ChangeAt Go.RowKit gl ls

/-- A store into a row that the call owns. -/
theorem own_store {M n s : Nat} {e : TypeId} {w : World} {g c : Nat} {xs : List Value} (h : w.ownsRow M e s (.slice (some ⟨g, 0, none⟩) n c) n xs) (i : Nat) (u : Value) (hi : i < n * s) :
    (∃ xs', (w.setCell ⟨g, i, none⟩ u).ownsRow M e s (.slice (some ⟨g, 0, none⟩) n c) n xs') ∧ (w.cell? ⟨g, i, none⟩).isSome = true ∧ w.frozen? ⟨g, i, none⟩ = false := by
  obtain ⟨hl, h2⟩ := h
  rcases h2 with ⟨h0, _⟩ | ⟨g', cap, cur, hv, hb, hg, hn, hm, hcs, ht⟩
  · cases h0
  · cases hv
    have hmul : n * s ≤ c * s := Nat.mul_le_mul_right s hn
    refine ⟨⟨_, ?_, .inr ⟨g, c, _, rfl, hb, heap_set hg u, hn, hm, by simpa using hcs, rfl⟩⟩, ?_, free_in hg⟩
    · rw [List.length_take, Array.length_toList, Array.size_setIfInBounds, hcs]
      omega
    · rw [cell_in hg, Array.getElem?_eq_getElem (by omega)]
      rfl
theorem own_g {M n s : Nat} {e : TypeId} {w : World} {v : Value} {xs : List Value} (h : w.ownsRow M e s v n xs) (hn : 0 < n) : ∃ g c, v = .slice (some ⟨g, 0, none⟩) n c ∧ M ≤ g ∧ g < w.heap.size := h.form hn
theorem txt_own {M n : Nat} {w : World} {v : Value} {l : List (List UInt8)} (h : w.ownsRow M 9 1 v n (rw.flat txC l)) : Txt w v l := rw.own_rw txC_len (by decide) h
theorem txt_block {w : World} {blk : Nat} {l : List (List UInt8)} {cs : Array Value} (h : w.heap[blk]? = some (.cells cs 9 (0, 0))) (hc : cs.toList = rw.flat txC l) : Txt w (.slice (some ⟨blk, 0, none⟩) l.length l.length) l := rw.rw_lit txC_len h hc
theorem own_grown {M n s : Nat} {e : TypeId} {w w' : World} {v v' : Value} {xs : List Value} (h : w.ownsRow M e s v n xs) (hg : w.grownBy w' v'.ownBlock) (hne : ∀ g g', v.ownBlock = some g → v'.ownBlock = some g' → g' ≠ g) : w'.ownsRow M e s v n xs :=
  (Upd.of_grown (S := v'.ownBlock.toList) hg (fun k hk => by rw [hk]; simp)).row h fun g hv hm => by
    cases hv' : v'.ownBlock with
    | none => rw [hv'] at hm; cases hm
    | some g' => rw [hv'] at hm; simp at hm; exact hne g g' hv hv' hm.symm
theorem t2_drew {w0 wp : World} {b d o q : Nat} {x y : Value} (h : wp.cell? ⟨b, o, none⟩ = some x ∧ wp.cell? ⟨d, q, none⟩ = some y ∧ Hid (Below w0.heap.size w0 wp)) : wp.drew.cell? ⟨b, o, none⟩ = some x ∧ wp.drew.cell? ⟨d, q, none⟩ = some y ∧ Hid (Below w0.heap.size w0 wp.drew) := ⟨h.1, h.2.1, Lib.hid h.2.2.out.drew⟩
theorem t2_of {w0 wp : World} {b d o q : Nat} {x y : Value} (h0 : w0.cell? ⟨b, o, none⟩ = some x) (h1 : w0.cell? ⟨d, q, none⟩ = some y) (hb : Below w0.heap.size w0 wp) : wp.cell? ⟨b, o, none⟩ = some x ∧ wp.cell? ⟨d, q, none⟩ = some y ∧ Hid (Below w0.heap.size w0 wp) := ⟨cell_then h0 hb, cell_then h1 hb, Lib.hid hb⟩
theorem t2_bel {w0 wp : World} {b d o q : Nat} {x y : Value} (h : wp.cell? ⟨b, o, none⟩ = some x ∧ wp.cell? ⟨d, q, none⟩ = some y ∧ Hid (Below w0.heap.size w0 wp)) : Hid (Below w0.heap.size w0 wp) := h.2.2
def vals12 : List (List UInt8) := [[], [48], [55], [48, 55], [45, 49], [50, 49, 52, 55, 52, 56, 51, 54, 52, 56], [50, 49, 52, 55, 52, 56, 51, 54, 52, 57], [97, 66, 99], [32, 97, 9, 98, 32], [9], [122, 123, 64, 91], [0, 255]]
set_option maxHeartbeats 8000000 in
set_option maxRecDepth 100000 in
theorem stepStands_any (w : World) (hS : Slo w) : Calls Tryz.prog 8 #[] w fun e w' => e = .returned (.bool true) ∧ Below w.heap.size w w' := by
  have HAw := Lib.hid (awake_any w hS)
  have HF := Lib.hid fun (W : World) (hb : Below w.heap.size w W) => functions_any W (hS.later hb)
  have HCa := Lib.hid fun (s x : List UInt8) (W : World) (hb : Below w.heap.size w W) => Call_any (B s) (B x) W (hS.later hb)
  have HCb := Lib.hid fun (s x : List UInt8) (W : World) => refCall_any (B s) (B x) W
  simp only [callV] at HCa HCb
  obtain ⟨i0, hi, hz0, hz1, hz2⟩ := info_parts (show (Tryz.prog.info? 9).map (fun i => (i.zero, i.size, i.bytes)) = some (some (.string .empty), 1, 16) by kernel_rfl)
  clear hS
  go_enter Tryz.func8, Tryz.ntmps8
  go_wp2_with fail
  refine HAw.out.mono ?_
  rintro e w1 ⟨rfl, hb1⟩
  have HB1 := Lib.hid hb1
  clear hb1
  go_wp2_with fail
  refine (HF.out _ HB1.out).mono ?_
  rintro e w2 ⟨va, rfl, hoa, hb2⟩
  obtain ⟨ga, ca, rfl, hga, hga2⟩ := own_g hoa (by decide)
  have HB2 := Lib.hid (then_bel HB1.out hb2)
  have HOa := Lib.hid hoa
  clear hb2 hoa
  go_wp2_with fail
  refine (HF.out _ HB2.out).mono ?_
  rintro e w3 ⟨vb, rfl, hob, hb3⟩
  obtain ⟨gb, cb, rfl, hgb, hgb2⟩ := own_g hob (by decide)
  have HB3 := Lib.hid (then_bel HB2.out hb3)
  have HOa3 := Lib.hid (ls.own_kept HOa.out hb3)
  have HOb := Lib.hid hob
  have hz3 := hb3.size
  clear hb3 hob HOa
  go_wp2_with fail
  refine (refFunctions_any _).mono ?_
  rintro e w4 ⟨rfl, hw4⟩
  have hb4 : Below w3.heap.size w3 w4 := by rw [hw4]; exact (Below.refl _ _).alloc (Nat.le_refl _) _
  have hT4 : Txt w4 (.slice (some ⟨w3.heap.size, 0, none⟩) 5 5) nmL := txt_block (l := nmL) (by rw [hw4]; exact heap_alloc_new w3 _) (by rfl)
  have HB4 := Lib.hid (then_bel HB3.out hb4)
  have HOa4 := Lib.hid (ls.own_kept HOa3.out hb4)
  have HOb4 := Lib.hid (ls.own_kept HOb.out hb4)
  have HX4 := Lib.hid (texts_any (some ⟨ga, 0, none⟩) (some ⟨w3.heap.size, 0, none⟩) 5 5 ca 5 nmL nmL (by decide) (by decide) w4 (txt_own (l := nmL) HOa4.out) hT4)
  have hz4 := hb4.size
  clear hb4 hT4 hw4 HOa3 HOb
  go_wp2_with fail
  refine HX4.out.mono ?_
  rintro e w5 ⟨r, rfl, hr, q, hw5⟩
  obtain rfl : r = true := by first | exact hr | exact hr trivial
  have hb5 : Below w4.heap.size w4 w5 := by rw [hw5]; exact drewN_bel w4 q
  have HB5 := Lib.hid (then_bel HB4.out hb5)
  have HOa5 := Lib.hid (ls.own_kept HOa4.out hb5)
  have HOb5 := Lib.hid (ls.own_kept HOb4.out hb5)
  have hz5 := hb5.size
  clear hb5 hw5 hr HOa4 HOb4 HX4
  have hne : ga ≠ gb := by omega
  have hgw : w.heap.size ≤ ga := by have := HB1.out.size; omega
  go_wp2_with fail
  go_loopw [5] (fun i wr => ∃ (k : Nat) (xs : List Value), k ≤ 5 ∧ i = .int .i64 k ∧ Hid (wr.ownsRow w1.heap.size 9 1 (.slice (some ⟨ga, 0, none⟩) 5 ca) 5 xs) ∧ Hid (wr.ownsRow w2.heap.size 9 1 (.slice (some ⟨gb, 0, none⟩) 5 cb) 5 namesL) ∧ Hid (Below w.heap.size w wr)) (fun i _ => 5 - (intOf i).toNat)
  case atStart => exact ⟨0, _, by omega, rfl, HOa5, HOb5, HB5⟩
  case round =>
    obtain ⟨k, xs, hk, rfl, HOk, HOb', Hb⟩ := hrel
    by_cases hlt : k < 5
    · have hki : (k : Int) < 5 := by omega
      have hk5 : (0 : Int) ≤ (k : Int) := by omega
      have Hst := Lib.hid (own_store HOk.out k (.string ⟨#[111, 118, 101, 114]⟩) (by omega))
      obtain ⟨v0, hc0⟩ := Option.isSome_iff_exists.1 Hst.out.2.1
      have hfz := Hst.out.2.2
      go_wp2_with fail
      go_roundw
      case rel =>
        obtain ⟨xs', h1⟩ := Hst.out.1
        exact ⟨k + 1, xs', by omega, by go_num, Lib.hid h1, Lib.hid (own_far HOb'.out (a := ⟨ga, k, none⟩) (fun g hg => by cases hg; exact fun e => hne e.symm) _), Lib.hid (Hb.out.setCell (p := ⟨ga, k, none⟩) hgw _)⟩
      case measure => simp [intOf]; omega
    · obtain rfl : k = 5 := by omega
      rw [show (((5 : Nat) : Int)) = 5 from rfl]
      go_wp2_with fail
      obtain ⟨wo, hwo⟩ : ∃ wo, wo = wr := ⟨_, rfl⟩
      rw [← hwo] at HOk HOb' Hb ⊢
      clear hwo
      go_loopw [2, 6] (fun v i wr => ∃ (k n : Nat) (xs : List Value), k ≤ 9 ∧ i = .int .i64 k ∧ n = 5 + k ∧ Hid (wr.ownsRow w1.heap.size 9 1 v n xs) ∧ Hid (∀ g, v.ownBlock = some g → g ≠ gb) ∧ Hid (wr.ownsRow w2.heap.size 9 1 (.slice (some ⟨gb, 0, none⟩) 5 cb) 5 namesL) ∧ Hid (Below w.heap.size w wr)) (fun _ i _ => 9 - (intOf i).toNat)
      case atStart => exact ⟨0, 5, xs, by omega, rfl, rfl, HOk, Lib.hid (fun g hg => by cases hg; exact hne), HOb', Hb⟩
      case round =>
        obtain ⟨k, n, xs2, hk, rfl, hn, HOv, Hnb, HOb2, Hb2⟩ := hrel
        by_cases hlt : k < 9
        · have hki : (k : Int) < 9 := by omega
          have hzb : gb < wr.heap.size := by
            obtain ⟨_, h⟩ := HOb2.out
            rcases h with ⟨h, _⟩ | ⟨g, _, _, h, _, h3, _⟩
            · cases h
            · cases h; exact lt_of_block h3
          have hzw : w1.heap.size ≤ wr.heap.size := Nat.le_trans (by omega) (Nat.le_of_lt hzb)
          focus
            go_wp2_with (at_builtin; go_must (refine wpList_append_k rfl _ _ 24 rfl 9 i0 _ 1 16 Tryz.underlying24 hi hz0 hz1 hz2 rfl (by omega) _ (by rfl) (by rfl) w1.heap.size _ _ _ (by rfl) HOv.out (by simp [Value.oneCell']) (by omega) (by omega) (by omega) ?_))
          intro g' cap' w7 hown7 hgrow hat hz7 hlt7
          have Hown7 := Lib.hid hown7
          have HOb7 := Lib.hid (own_grown HOb2.out hgrow (fun g g' hg hg' => by cases hg; exact Hnb.out g' hg'))
          have HB7 := Lib.hid (grown_bel Hb2.out HOv.out hgrow (HB1.out.size) (Nat.le_trans HB1.out.size hzw))
          have Hnb7 : Hid (∀ g, (Value.slice (some ⟨g', 0, none⟩) (n + 1) cap').ownBlock = some g → g ≠ gb) := Lib.hid (fun g hg => by
            cases hg
            show g' ≠ gb
            rcases hat with h | h
            · exact Hnb.out _ h
            · intro e; rw [e] at h; omega)
          clear hown7 hgrow hat hlt7
          go_wp2_with fail
          go_roundw
          case rel => exact ⟨k + 1, 5 + k + 1, _, by omega, by go_num, by omega, Hown7, Hnb7, HOb7, HB7⟩
          case measure => simp [intOf]; omega
        · obtain rfl : k = 9 := by omega
          have HB8 := Hb2
          go_wp2_with fail
          refine (HF.out _ HB8.out).mono ?_
          rintro e w8 ⟨vc, rfl, hoc, hb8⟩
          obtain ⟨gc, cc, rfl, hgc, hgc2⟩ := own_g hoc (by decide)
          have HB9 := Lib.hid (then_bel HB8.out hb8)
          have HOb9 := Lib.hid (ls.own_kept HOb2.out hb8)
          have HOc := Lib.hid hoc
          clear hb8 hoc
          go_wp2_with fail
          refine (refFunctions_any _).mono ?_
          rintro e w9 ⟨rfl, hw9⟩
          have hb9 : Below w8.heap.size w8 w9 := by rw [hw9]; exact (Below.refl _ _).alloc (Nat.le_refl _) _
          have hT9 : Txt w9 (.slice (some ⟨w8.heap.size, 0, none⟩) 5 5) nmL := txt_block (l := nmL) (by rw [hw9]; exact heap_alloc_new w8 _) (by rfl)
          have HBx := Lib.hid (then_bel HB9.out hb9)
          have HOb10 := Lib.hid (ls.own_kept HOb9.out hb9)
          have HOc10 := Lib.hid (ls.own_kept HOc.out hb9)
          have HX9 := Lib.hid (texts_any (some ⟨gb, 0, none⟩) (some ⟨w8.heap.size, 0, none⟩) 5 5 cb 5 nmL nmL (by decide) (by decide) w9 (txt_own (l := nmL) HOb10.out) hT9)
          clear hb9 hT9 hw9 HOb9 HOc
          go_wp2_with fail
          refine HX9.out.mono ?_
          rintro e w10 ⟨r, rfl, hr, q10, hw10⟩
          obtain rfl : r = true := by first | exact hr | exact hr trivial
          have hb10 : Below w9.heap.size w9 w10 := by rw [hw10]; exact drewN_bel w9 q10
          have HBy := Lib.hid (then_bel HBx.out hb10)
          have HOc11 := Lib.hid (ls.own_kept HOc10.out hb10)
          clear hb10 hw10 hr HOb10 HOc10 HX9
          go_wp2_with fail
          refine (refFunctions_any _).mono ?_
          rintro e w11 ⟨rfl, hw11⟩
          have hb11 : Below w10.heap.size w10 w11 := by rw [hw11]; exact (Below.refl _ _).alloc (Nat.le_refl _) _
          have hT11 : Txt w11 (.slice (some ⟨w10.heap.size, 0, none⟩) 5 5) nmL := txt_block (l := nmL) (by rw [hw11]; exact heap_alloc_new w10 _) (by rfl)
          have HBz := Lib.hid (then_bel HBy.out hb11)
          have HOc12 := Lib.hid (ls.own_kept HOc11.out hb11)
          have HX11 := Lib.hid (texts_any (some ⟨gc, 0, none⟩) (some ⟨w10.heap.size, 0, none⟩) 5 5 cc 5 nmL nmL (by decide) (by decide) w11 (txt_own (l := nmL) HOc12.out) hT11)
          clear hb11 hT11 hw11 HOc11
          go_wp2_with fail
          refine HX11.out.mono ?_
          rintro e w12 ⟨r, rfl, hr, q12, hw12⟩
          obtain rfl : r = true := by first | exact hr | exact hr trivial
          have hb12 : Below w11.heap.size w11 w12 := by rw [hw12]; exact drewN_bel w11 q12
          have HB12 := Lib.hid (then_bel HBz.out hb12)
          have HOc13 := Lib.hid (ls.own_kept HOc12.out hb12)
          have HTc := Lib.hid (txt_own (l := nmL) HOc13.out)
          obtain ⟨wV, hV⟩ : ∃ wV, wV = w12.alloc (.cells (rw.flat txC vals12).toArray 9) := ⟨_, rfl⟩
          have hbV : Below w12.heap.size w12 wV := by rw [hV]; exact (Below.refl _ _).alloc (Nat.le_refl _) _
          have hTV : Txt wV (.slice (some ⟨w12.heap.size, 0, none⟩) 12 12) vals12 := txt_block (l := vals12) (by rw [hV]; exact heap_alloc_new w12 _) (by simp)
          have HTV := Lib.hid hTV
          have HTcV := Lib.hid (HTc.out.later hbV)
          have HBV := Lib.hid (then_bel HB12.out hbV)
          have HV : Hid (wV = w12.alloc (.cells #[.string ⟨#[]⟩, .string ⟨#[48]⟩, .string ⟨#[55]⟩, .string ⟨#[48, 55]⟩, .string ⟨#[45, 49]⟩, .string ⟨#[50, 49, 52, 55, 52, 56, 51, 54, 52, 56]⟩, .string ⟨#[50, 49, 52, 55, 52, 56, 51, 54, 52, 57]⟩, .string ⟨#[97, 66, 99]⟩, .string ⟨#[32, 97, 9, 98, 32]⟩, .string ⟨#[9]⟩, .string ⟨#[122, 123, 64, 91]⟩, .string ⟨#[0, 255]⟩] 9)) := Lib.hid hV
          clear hb12 hw12 hr HOc12 HX11 hbV hV HTc hTV
          go_wp2_with fail
          rw [← HV.out]
          go_loopw [11] (fun i wr => ∃ k : Nat, k ≤ 5 ∧ i = .int .i64 k ∧ Hid (Below wV.heap.size wV wr)) (fun i _ => 5 - (intOf i).toNat)
          case atStart => exact ⟨0, by omega, rfl, Lib.hid (Below.refl _ _)⟩
          case round =>
            obtain ⟨k, hk, rfl, Hb9⟩ := hrel
            by_cases hlt : k < 5
            · obtain ⟨wp, hwp⟩ : ∃ wp, wp = wr := ⟨_, rfl⟩
              rw [← hwp] at Hb9 ⊢
              clear hwp
              have hki : (k : Int) < 5 := by omega
              have hk5 : (0 : Int) ≤ (k : Int) := by omega
              obtain ⟨x, hx⟩ : ∃ x, nmL[k]? = some x := ⟨_, List.getElem?_eq_getElem hlt⟩
              have Hx := Lib.hid hx
              clear hx
              go_wp2_with fail
              go_loopw [12] (fun i wr => ∃ j : Nat, j ≤ 12 ∧ i = .int .i64 j ∧ Hid (Below wV.heap.size wV wr)) (fun i _ => 12 - (intOf i).toNat)
              case atStart => exact ⟨0, by omega, rfl, Hb9⟩
              case round =>
                obtain ⟨j, hj, rfl, Hbj⟩ := hrel
                by_cases hlj : j < 12
                · have hji : (j : Int) < 12 := by omega
                  have hj5 : (0 : Int) ≤ (j : Int) := by omega
                  obtain ⟨y, hy⟩ : ∃ y, vals12[j]? = some y := ⟨_, List.getElem?_eq_getElem hlj⟩
                  have e0 := txt_cell (HTcV.out.later Hbj.out) Hx.out
                  have e1 := txt_cell (HTV.out.later Hbj.out) hy
                  have HQ := Lib.hid fun (W : World) (hb : Hid (Below wr.heap.size wr W)) => HCa.out x y W (then_bel HBV.out (then_bel Hbj.out hb.out))
                  have HQ2 := Lib.hid (HCb.out x y)
                  clear hy
                  obtain ⟨u, E, hU⟩ : ∃ u E, callL x y = (u, E) := ⟨_, _, rfl⟩
                  rw [hU] at HQ HQ2
                  simp only at HQ HQ2
                  clear hU
                  generalize B u = uu at *
                  generalize B x = xx at *
                  generalize B y = yy at *
                  have qr : (E != E) = false := by simp
                  simp only [Nat.zero_add] at e0 e1
                  have hSt := t2_of e0 e1 (Below.refl _ wr)
                  go_wp2_with fail
                  go_region_held3 (fun w' => w'.cell? ⟨gc, k, none⟩ = some (.string xx) ∧ w'.cell? ⟨w12.heap.size, j, none⟩ = some (.string yy) ∧ Hid (Below wr.heap.size wr w'))
                    (first | assumption | (with_reducible exact t2_drew (by assumption)))
                    ((go_at_call 42; (with_reducible refine Calls.mono (HQ.out _ (t2_bel (by assumption))) ?_); rintro e w' ⟨rfl, hb⟩; have hS' := t2_of e0 e1 (then_bel (t2_bel (by assumption)).out hb); clear hb))
                  all_goals
                    rename_i hH
                    clear hSt
                    go_wp2_with fail
                    go_region_held3 (fun w' => w'.cell? ⟨gc, k, none⟩ = some (.string xx) ∧ w'.cell? ⟨w12.heap.size, j, none⟩ = some (.string yy) ∧ Hid (Below wr.heap.size wr w'))
                      (first | assumption | (with_reducible exact t2_drew (by assumption)))
                      ((go_at_call 43; (with_reducible refine Calls.mono (HQ2.out _) ?_); rintro e w' ⟨rfl, hb⟩; have hS' := t2_of e0 e1 (then_bel (t2_bel (by assumption)).out hb); clear hb))
                    all_goals
                      rename_i hH2
                      have hbH := Lib.hid hH2.2.2.out
                      clear hH hH2 e0 e1
                      go_wp2_with fail
                      go_roundw
                      case rel => exact ⟨j + 1, by omega, by go_num, Lib.hid (then_bel Hbj.out hbH.out)⟩
                      case measure => simp [intOf]; omega
                · obtain rfl : j = 12 := by omega
                  go_wp2_with fail
                  go_roundw
                  case rel => exact ⟨k + 1, by omega, by go_num, Hbj⟩
                  case measure => simp [intOf]; omega
            · obtain rfl : k = 5 := by omega
              go_wp2_with fail
              go_ret
              exact ⟨rfl, then_bel HBV.out Hb9.out⟩
end Go.Proofs.YthjcifokmcbaoaaGreatDoor.st
/- StepCalls returns true. Condition: the listed variables hold what the program's text lays. -/
namespace Go.Proofs.YthjcifokmcbaoaaGreatDoor.st
open Go.ChangeShapes Go.WideShapes Go.ChangeAt Go.RowKit gl ls

set_option maxHeartbeats 8000000 in
set_option maxRecDepth 100000 in
theorem stepCalls_any (s x : ByteArray) (w : World) (hS : Slo w) : Calls Tryz.prog 9 #[.string s, .string x] w fun e w' => e = .returned (.bool true) ∧ Below w.heap.size w w' := by
  have HA := Lib.hid (addsUp_any (s.size : Int) (x.size : Int) w (by omega) (by omega))
  have HCa := Lib.hid fun (W : World) (hb : Below w.heap.size w W) => Call_any s x W (hS.later hb)
  have HCb := Lib.hid fun (W : World) => refCall_any s x W
  have HSt := Lib.hid fun (W : World) (hb : Below w.heap.size w W) => stepStands_any W (hS.later hb)
  simp only [callV] at HCa HCb
  obtain ⟨u, E, hU⟩ : ∃ u E, callL s.data.toList x.data.toList = (u, E) := ⟨_, _, rfl⟩
  rw [hU] at HCa HCb
  simp only at HCa HCb
  clear hU hS
  generalize B u = uu at *
  generalize addU (s.size : Int) (x.size : Int) = N at *
  by_cases hbig : 2147483647 < N
  · have q1 : decide (2147483647 < N) = true := by rw [decide_eq_true_iff]; exact hbig
    go_enter Tryz.func9, Tryz.ntmps9
    go_wp2_with fail
    refine HA.out.mono ?_
    rintro e w1 ⟨rfl, hw⟩
    obtain rfl : w = w1 := hw.symm
    go_wp2_with fail
    go_ret
    exact ⟨rfl, Below.refl _ _⟩
  · have q1 : decide (2147483647 < N) = false := by rw [decide_eq_false_iff_not]; exact hbig
    have qr : (E == E) = true := by simp
    go_enter Tryz.func9, Tryz.ntmps9
    go_wp2_with fail
    refine HA.out.mono ?_
    rintro e w1 ⟨rfl, hw⟩
    obtain rfl : w = w1 := hw.symm
    go_wp2_with fail
    refine (HCa.out _ (Below.refl _ _)).mono ?_
    rintro e w1 ⟨rfl, hb1⟩
    have HB1 := Lib.hid hb1
    clear hb1
    go_wp2_with fail
    refine (HCb.out _).mono ?_
    rintro e w2 ⟨rfl, hb2⟩
    have HB2 := Lib.hid (then_bel HB1.out hb2)
    clear hb2
    go_wp2_with fail
    refine (HSt.out _ HB2.out).mono ?_
    rintro e w3 ⟨rfl, hb3⟩
    have HB3 := Lib.hid (then_bel HB2.out hb3)
    clear hb3
    go_wp2_with fail
    refine (HCa.out _ HB3.out).mono ?_
    rintro e w4 ⟨rfl, hb4⟩
    have HB4 := Lib.hid (then_bel HB3.out hb4)
    clear hb4
    go_wp2_with fail
    go_ret
    exact ⟨rfl, HB4.out⟩
end Go.Proofs.YthjcifokmcbaoaaGreatDoor.st
/- An argument that is a slice of structs whose fields take one cell each, opened: each element's cells and their readings. For any program; no conditions beside those stated. -/
namespace Go.Proofs.YthjcifokmcbaoaaGreatDoor
open Go.ChangeShapes Go.WideShapes Go.Deep Go.RowKit
section
variable {H : Type} {enc : TypeId × Value → H} {P : Program} {w : World} {base : Nat} {spare : Nat → Bool} {held : Bool}

/-- Each element of a slice of structs: its fields' cells, read. -/
theorem open_rows {t e : TypeId} {fs : Array Field} {v : Value} {d : DataW H} {ps : List MemPlace} (ht : P.underlying t = some (.slice e)) (he : P.underlying e = some (.struct fs))
    (hone : oneCellFields P fs = true) (hC : P.cellsOf e = fs.size) (h : DataW.Trod enc P w base spare held t v d ps) (hv : v.cells.toList = [v]) :
    v = .slice none 0 0 ∨ ∃ (a : Addr) (len cap : Nat), v = .slice (some a) len cap ∧ len ≤ cap ∧ cap ≤ maxLen ∧
      ∀ i, i < len → ∀ (j : Nat) (f : Field), fs[j]? = some f → ∃ (u : Value) (y : DataW H × List MemPlace) (n : Nat), w.cell? (a.add (i * fs.size + j)) = some u ∧ DataW.trod enc P w base spare held n f.type [u] = some y := by
  obtain ⟨fuel, hf⟩ := h
  rw [hv] at hf
  rcases open_slice ht hf with ⟨h0, _⟩ | ⟨a, len, cap, m, n, D, Pl, hcs, hb, hl, hm, hmm, hx, hi⟩
  · simp only [List.cons.injEq, and_true] at h0
    exact .inl h0
  · simp only [List.cons.injEq, and_true] at hcs
    refine .inr ⟨a, len, cap, hcs, hl, hm, fun i him j f hj => ?_⟩
    have him' : i < m := by rw [hmm]; split <;> omega
    obtain ⟨cs', hc, ht'⟩ := hi i him'
    rw [hC] at hc
    obtain ⟨ys, n', hn', hy, hlen, hyl, hf'⟩ := DataW.trod_struct he ht'
    obtain ⟨_, hcl, hat⟩ := World.cells?_some hc
    obtain ⟨ho, hk⟩ := hone_of hone j f hj
    have hjl : j < fs.size := (Array.getElem?_eq_some_iff.1 hj).1
    have hcell := hat j hjl
    have h1 := hf' j f hj
    rw [ho, hk] at h1
    have hone' : (cs'.drop j).take 1 = [cs'[j]'(by omega)] := by
      rw [List.drop_eq_getElem_cons (by omega)]
      rfl
    rw [hone'] at h1
    have hys : ys[j]? = some (ys[j]'(by omega)) := List.getElem?_eq_getElem (by omega)
    exact ⟨_, _, n', by rw [← Go.Deep.add_add, hcell, List.getElem?_eq_getElem (by omega)], h1.trans hys⟩
end

/-- A cell that holds something lies in no view. -/
theorem spot_none {w : World} {a : Addr} {v : Value} (h : w.cell? a = some v) : a.spot = none := by
  unfold World.cell? at h
  split at h
  · split at h
    · cases h
    · rename_i hs
      simpa using hs
  · cases h
theorem add_none {b off k : Nat} : (⟨b, off, none⟩ : Addr).add k = ⟨b, off + k, none⟩ := by
  unfold Addr.add
  split
  · rename_i h; revert h; simp
  · rfl
end Go.Proofs.YthjcifokmcbaoaaGreatDoor
/- Arguments that are pairs and steps, opened: their texts and numbers, and their cells in memory. No conditions. -/
namespace Go.Proofs.YthjcifokmcbaoaaGreatDoor.st
open Go.ChangeShapes Go.WideShapes Go.Deep Go.RowKit gl

theorem wf_b {n : Int} (h : (Lit.int .i64 n).wf = true) : -9223372036854775808 ≤ n ∧ n ≤ 9223372036854775807 := by
  have := h
  simp [Lit.wf, IntKind.min, IntKind.max, IntKind.signed, IntKind.bits] at this
  exact this
def PrOk (x : Pr) : Prop := x.table.length ≤ 9223372036854775807 ∧ x.key.length ≤ 9223372036854775807 ∧ x.value.length ≤ 9223372036854775807
def SpOk (x : Sp) : Prop := (-9223372036854775808 ≤ x.kind ∧ x.kind ≤ 9223372036854775807) ∧ x.table.length ≤ 9223372036854775807 ∧ x.key.length ≤ 9223372036854775807 ∧ x.to.length ≤ 9223372036854775807 ∧ x.text.length ≤ 9223372036854775807
def PairsOk (W : World) (p : Option Addr) (cap : Nat) (l : List Pr) : Prop := Prs W (.slice p l.length cap) l ∧ ∀ x ∈ l, PrOk x
def StepsOk (W : World) (p : Option Addr) (cap : Nat) (l : List Sp) : Prop := Sps W (.slice p l.length cap) l ∧ ∀ x ∈ l, SpOk x

instance : Inhabited Sp := ⟨⟨0, [], [], [], []⟩⟩
theorem pairs_of {H : Type} {enc : TypeId × Value → H} {W : World} {v : Value} {d : DataW H} {ps : List MemPlace} (h : DataW.Trod enc Tryz.prog W 0 (fun _ => true) true 44 v d ps) (hv : v.cells.toList = [v]) :
    ∃ p cap l, v = .slice p l.length cap ∧ l.length ≤ maxLen ∧ PairsOk W p cap l := by
  rcases open_rows Tryz.underlying44 Tryz.underlying57 (by kernel_rfl) (by kernel_rfl) h hv with h | ⟨a, len, cap, hs, hl, hm, hat⟩
  · exact ⟨none, 0, [], h, Nat.zero_le _, ⟨none, 0, rfl, Nat.le_refl _, .inl rfl⟩, fun x hx => by cases hx⟩
  · have hall : ∀ i, i < len → ∃ x : Pr, PrOk x ∧ ∃ b off, a = ⟨b, off, none⟩ ∧ b < W.heap.size ∧ ∀ (j : Nat) (u : Value), (prC x)[j]? = some u → W.cell? ⟨b, off + (i * 3 + j), none⟩ = some u := by
      intro i hi
      obtain ⟨u0, y0, n0, c0, t0⟩ := hat i hi 0 _ rfl
      obtain ⟨u1, y1, n1, c1, t1⟩ := hat i hi 1 _ rfl
      obtain ⟨u2, y2, n2, c2, t2⟩ := hat i hi 2 _ rfl
      obtain ⟨s0, e0, _, w0⟩ := DataW.trod_string Tryz.underlying9 t0
      obtain ⟨s1, e1, _, w1⟩ := DataW.trod_string Tryz.underlying9 t1
      obtain ⟨s2, e2, _, w2⟩ := DataW.trod_string Tryz.underlying9 t2
      simp only [List.cons.injEq, and_true] at e0 e1 e2
      subst e0 e1 e2
      obtain ⟨v0, y0', n0', z, _⟩ := hat 0 (by omega) 0 _ rfl
      have hsp : a.spot = none := by
        have := spot_none z
        simpa [Addr.add] using this
      obtain ⟨b, off, sp⟩ := a
      simp only at hsp
      subst hsp
      unfold maxLen at w0 w1 w2
      rw [add_none] at c0 c1 c2
      change W.cell? ⟨b, off + (i * 3 + 0), none⟩ = _ at c0
      change W.cell? ⟨b, off + (i * 3 + 1), none⟩ = _ at c1
      change W.cell? ⟨b, off + (i * 3 + 2), none⟩ = _ at c2
      refine ⟨⟨s0.data.toList, s1.data.toList, s2.data.toList⟩, ⟨by simp only [toList_len]; omega, by simp only [toList_len]; omega, by simp only [toList_len]; omega⟩, b, off, rfl, World.block_lt_of_cell? _ _ c0, fun j u hu => ?_⟩
      match j, hu with
      | 0, hu => obtain rfl := Option.some.inj hu; simp only [B_of]; exact c0
      | 1, hu => obtain rfl := Option.some.inj hu; simp only [B_of]; exact c1
      | 2, hu => obtain rfl := Option.some.inj hu; simp only [B_of]; exact c2
    obtain ⟨f, hf⟩ := Deep.choose_lt hall
    refine ⟨some a, cap, (List.range len).map f, by simpa using hs, by simp; omega, ⟨some a, cap, rfl, by simpa using hl, ?_⟩, fun x hx => ?_⟩
    · by_cases h0 : len = 0
      · subst h0
        exact .inl rfl
      · obtain ⟨_, b, off, rfl, hb, _⟩ := hf 0 (by omega)
        refine .inr ⟨b, off, rfl, hb, fun j x hx i u hu => ?_⟩
        simp only [List.getElem?_map, Option.map_eq_some_iff] at hx
        obtain ⟨k, hk, rfl⟩ := hx
        obtain ⟨hk1, rfl⟩ := List.getElem?_eq_some_iff.1 hk
        simp only [List.getElem_range] at hu
        obtain ⟨_, b', off', he, _, h2⟩ := hf j (by simpa using hk1)
        cases he
        exact h2 i u hu
    · obtain ⟨i, hi, rfl⟩ := List.mem_map.1 hx
      exact (hf i (List.mem_range.1 hi)).1
theorem steps_of {H : Type} {enc : TypeId × Value → H} {W : World} {v : Value} {d : DataW H} {ps : List MemPlace} (h : DataW.Trod enc Tryz.prog W 0 (fun _ => true) true 34 v d ps) (hv : v.cells.toList = [v]) :
    ∃ p cap l, v = .slice p l.length cap ∧ l.length ≤ maxLen ∧ StepsOk W p cap l := by
  rcases open_rows Tryz.underlying34 Tryz.underlying42 (by kernel_rfl) (by kernel_rfl) h hv with h | ⟨a, len, cap, hs, hl, hm, hat⟩
  · exact ⟨none, 0, [], h, Nat.zero_le _, ⟨none, 0, rfl, Nat.le_refl _, .inl rfl⟩, fun x hx => by cases hx⟩
  · have hall : ∀ i, i < len → ∃ x : Sp, SpOk x ∧ ∃ b off, a = ⟨b, off, none⟩ ∧ b < W.heap.size ∧ ∀ (j : Nat) (u : Value), (spC x)[j]? = some u → W.cell? ⟨b, off + (i * 5 + j), none⟩ = some u := by
      intro i hi
      obtain ⟨u0, y0, n0, c0, t0⟩ := hat i hi 0 _ rfl
      obtain ⟨u1, y1, n1, c1, t1⟩ := hat i hi 1 _ rfl
      obtain ⟨u2, y2, n2, c2, t2⟩ := hat i hi 2 _ rfl
      obtain ⟨u3, y3, n3, c3, t3⟩ := hat i hi 3 _ rfl
      obtain ⟨u4, y4, n4, c4, t4⟩ := hat i hi 4 _ rfl
      obtain ⟨z0, e0, _, w0⟩ := DataW.trod_int Tryz.underlying3 t0
      obtain ⟨s1, e1, _, w1⟩ := DataW.trod_string Tryz.underlying9 t1
      obtain ⟨s2, e2, _, w2⟩ := DataW.trod_string Tryz.underlying9 t2
      obtain ⟨s3, e3, _, w3⟩ := DataW.trod_string Tryz.underlying9 t3
      obtain ⟨s4, e4, _, w4⟩ := DataW.trod_string Tryz.underlying9 t4
      simp only [List.cons.injEq, and_true] at e0 e1 e2 e3 e4
      subst e0 e1 e2 e3 e4
      obtain ⟨v0, y0', n0', z, _⟩ := hat 0 (by omega) 0 _ rfl
      have hsp : a.spot = none := by
        have := spot_none z
        simpa [Addr.add] using this
      obtain ⟨b, off, sp⟩ := a
      simp only at hsp
      subst hsp
      have b0 := wf_b w0
      unfold maxLen at w1 w2 w3 w4
      rw [add_none] at c0 c1 c2 c3 c4
      change W.cell? ⟨b, off + (i * 5 + 0), none⟩ = _ at c0
      change W.cell? ⟨b, off + (i * 5 + 1), none⟩ = _ at c1
      change W.cell? ⟨b, off + (i * 5 + 2), none⟩ = _ at c2
      change W.cell? ⟨b, off + (i * 5 + 3), none⟩ = _ at c3
      change W.cell? ⟨b, off + (i * 5 + 4), none⟩ = _ at c4
      refine ⟨⟨z0, s1.data.toList, s2.data.toList, s3.data.toList, s4.data.toList⟩, ⟨b0, by simp only [toList_len]; omega, by simp only [toList_len]; omega, by simp only [toList_len]; omega, by simp only [toList_len]; omega⟩, b, off, rfl, World.block_lt_of_cell? _ _ c0, fun j u hu => ?_⟩
      match j, hu with
      | 0, hu => obtain rfl := Option.some.inj hu; exact c0
      | 1, hu => obtain rfl := Option.some.inj hu; simp only [B_of]; exact c1
      | 2, hu => obtain rfl := Option.some.inj hu; simp only [B_of]; exact c2
      | 3, hu => obtain rfl := Option.some.inj hu; simp only [B_of]; exact c3
      | 4, hu => obtain rfl := Option.some.inj hu; simp only [B_of]; exact c4
    obtain ⟨f, hf⟩ := Deep.choose_lt hall
    refine ⟨some a, cap, (List.range len).map f, by simpa using hs, by simp; omega, ⟨some a, cap, rfl, by simpa using hl, ?_⟩, fun x hx => ?_⟩
    · by_cases h0 : len = 0
      · subst h0
        exact .inl rfl
      · obtain ⟨_, b, off, rfl, hb, _⟩ := hf 0 (by omega)
        refine .inr ⟨b, off, rfl, hb, fun j x hx i u hu => ?_⟩
        simp only [List.getElem?_map, Option.map_eq_some_iff] at hx
        obtain ⟨k, hk, rfl⟩ := hx
        obtain ⟨hk1, rfl⟩ := List.getElem?_eq_some_iff.1 hk
        simp only [List.getElem_range] at hu
        obtain ⟨_, b', off', he, _, h2⟩ := hf j (by simpa using hk1)
        cases he
        exact h2 i u hu
    · obtain ⟨i, hi, rfl⟩ := List.mem_map.1 hx
      exact (hf i (List.mem_range.1 hi)).1
theorem cSp : Tryz.prog.cellsOf 42 = 5 := by kernel_rfl
theorem cIntS : Tryz.prog.cellsOf 3 = 1 := by kernel_rfl
theorem cStrS : Tryz.prog.cellsOf 9 = 1 := by kernel_rfl
theorem arr5 {cs : Array Value} (h : cs.size = 5) : ∃ c0 c1 c2 c3 c4, cs = #[c0, c1, c2, c3, c4] := by
  obtain ⟨l⟩ := cs
  match l, h with
  | [a, b, c, d, e], _ => exact ⟨a, b, c, d, e, rfl⟩
theorem len5 {α : Type} : ∀ {l : List α}, l.length = 5 → ∃ a b c d e, l = [a, b, c, d, e]
  | [a, b, c, d, e], _ => ⟨a, b, c, d, e, rfl⟩
theorem step_of {H : Type} {enc : TypeId × Value → H} {W : World} {v : Value} {cs : Array Value} {d : DataW H} {ps : List MemPlace} (h : DataW.Trod enc Tryz.prog W 0 (fun _ => true) true 42 v d ps) (hv : v = .agg cs) (hz : cs.size = Tryz.prog.cellsOf 42) :
    ∃ (x : Sp) (_ : Unit), v = .agg #[.int .i64 x.kind, .string (B x.table), .string (B x.key), .string (B x.to), .string (B x.text)] ∧ SpOk x ∧ True := by
  subst hv
  rw [cSp] at hz
  obtain ⟨c0, c1, c2, c3, c4, rfl⟩ := arr5 hz
  obtain ⟨fuel, hf⟩ := h
  obtain ⟨xs, n, rfl, hx, hl, hxl, hall⟩ := DataW.trod_struct Tryz.underlying42 hf
  have hxl5 : xs.length = 5 := hxl
  obtain ⟨x0, x1, x2, x3, x4, rfl⟩ := len5 hxl5
  have f0 := hall 0 _ rfl
  have f1 := hall 1 _ rfl
  have f2 := hall 2 _ rfl
  have f3 := hall 3 _ rfl
  have f4 := hall 4 _ rfl
  change DataW.trod _ _ _ _ _ _ _ 3 (([c0, c1, c2, c3, c4].drop 0).take (Tryz.prog.cellsOf 3)) = _ at f0
  change DataW.trod _ _ _ _ _ _ _ 9 (([c0, c1, c2, c3, c4].drop 1).take (Tryz.prog.cellsOf 9)) = _ at f1
  change DataW.trod _ _ _ _ _ _ _ 9 (([c0, c1, c2, c3, c4].drop 2).take (Tryz.prog.cellsOf 9)) = _ at f2
  change DataW.trod _ _ _ _ _ _ _ 9 (([c0, c1, c2, c3, c4].drop 3).take (Tryz.prog.cellsOf 9)) = _ at f3
  change DataW.trod _ _ _ _ _ _ _ 9 (([c0, c1, c2, c3, c4].drop 4).take (Tryz.prog.cellsOf 9)) = _ at f4
  rw [cIntS] at f0
  rw [cStrS] at f1 f2 f3 f4
  obtain ⟨z0, e0, _, w0⟩ := DataW.trod_int Tryz.underlying3 f0
  obtain ⟨s1, e1, _, w1⟩ := DataW.trod_string Tryz.underlying9 f1
  obtain ⟨s2, e2, _, w2⟩ := DataW.trod_string Tryz.underlying9 f2
  obtain ⟨s3, e3, _, w3⟩ := DataW.trod_string Tryz.underlying9 f3
  obtain ⟨s4, e4, _, w4⟩ := DataW.trod_string Tryz.underlying9 f4
  simp at e0 e1 e2 e3 e4
  subst e0 e1 e2 e3 e4
  have b0 := wf_b w0
  unfold maxLen at w1 w2 w3 w4
  exact ⟨⟨z0, s1.data.toList, s2.data.toList, s3.data.toList, s4.data.toList⟩, (), by simp only [B_of], ⟨b0, by simp only [toList_len]; omega, by simp only [toList_len]; omega, by simp only [toList_len]; omega, by simp only [toList_len]; omega⟩, trivial⟩
end Go.Proofs.YthjcifokmcbaoaaGreatDoor.st
/- Chapter 16 in plain words: a step does with the pairs of its tables what it does where there are no others. No program in sight; no conditions beside those stated. -/
namespace Go.Proofs.YthjcifokmcbaoaaGreatDoor.st
open gl

def spk (s : Sp) (p : Pr) : Bool := decide (p.table = s.table) || (decide (s.kind = 4) && decide (p.table = s.to))
theorem spk_table {s : Sp} {p : Pr} (h : p.table = s.table) : spk s p = true := by unfold spk; rw [decide_eq_true h]; rfl
theorem idx_filter {l : List Pr} {s : Sp} {k : List UInt8} : (idxL (l.filter (spk s)) s.table k).isSome = (idxL l s.table k).isSome := by
  rw [Bool.eq_iff_iff, Option.isSome_iff_exists, Option.isSome_iff_exists]
  constructor
  · rintro ⟨i, hi⟩
    obtain ⟨p, hp, h1, h2, _⟩ := idx_some hi
    cases h : idxL l s.table k with
    | some j => exact ⟨j, rfl⟩
    | none => exact absurd ⟨h1, h2⟩ (idx_none h p (List.mem_filter.1 (List.mem_of_getElem? hp)).1)
  · rintro ⟨i, hi⟩
    obtain ⟨p, hp, h1, h2, _⟩ := idx_some hi
    cases h : idxL (l.filter (spk s)) s.table k with
    | some j => exact ⟨j, rfl⟩
    | none => exact absurd ⟨h1, h2⟩ (idx_none h p (List.mem_filter.2 ⟨List.mem_of_getElem? hp, spk_table h1⟩))
theorem asc_same {l : List Pr} (h : Asc l) {p q : Pr} (hp : p ∈ l) (hq : q ∈ l) (h1 : p.table = q.table) (h2 : p.key = q.key) : p = q := by
  obtain ⟨i, hi⟩ := List.mem_iff_getElem?.1 hp
  obtain ⟨hx, hy⟩ := asc_apart (by rw [← get_split hi]; exact h)
  rw [get_split hi] at hq
  rcases List.mem_append.1 hq with hq | hq
  · exact absurd ⟨h1.symm, h2.symm⟩ (ltP_ne (hx q hq))
  · rcases List.mem_cons.1 hq with rfl | hq
    · rfl
    · exact absurd ⟨h1, h2⟩ (ltP_ne (hy q hq))
theorem mapF_filter {t f : List UInt8} (g : Pr → Bool) (hg : ∀ p q : Pr, p.table = q.table → g p = g q) (ht : ∀ p : Pr, p.table = t → g p = true) : ∀ l : List Pr, mapF t f (l.filter g) = (mapF t f l).map fun q => q.filter g
  | [] => rfl
  | p :: r => by
    rw [List.filter_cons]
    by_cases hp : p.table = t
    · rw [if_pos (ht p hp), mapF, if_pos hp, mapF, if_pos hp]
      cases hv : funL f p.value with
      | none => rfl
      | some v =>
        simp only
        rw [mapF_filter g hg ht r]
        cases mapF t f r with
        | none => rfl
        | some q =>
          simp only [Option.map_some, List.filter_cons]
          have hgv : g ⟨p.table, p.key, v⟩ = true := (hg ⟨p.table, p.key, v⟩ p rfl).trans (ht p hp)
          rw [if_pos hgv]
    · rw [show mapF t f (p :: r) = (mapF t f r).map fun q => p :: q by rw [mapF, if_neg hp]]
      split
      · rename_i hgp
        rw [mapF, if_neg hp, mapF_filter g hg ht r]
        cases mapF t f r with
        | none => rfl
        | some q =>
          simp only [Option.map_some, List.filter_cons]
          rw [if_pos hgp]
      · rename_i hgp
        rw [mapF_filter g hg ht r]
        cases mapF t f r with
        | none => rfl
        | some q =>
          simp only [Option.map_some, List.filter_cons]
          rw [if_neg hgp]
theorem mapF_other {t f : List UInt8} (g : Pr → Bool) (hg : ∀ p q : Pr, p.table = q.table → g p = g q) (ht : ∀ p : Pr, p.table = t → g p = false) : ∀ l q : List Pr, mapF t f l = some q → q.filter g = l.filter g
  | [], q, h => by simp [mapF] at h; subst h; rfl
  | p :: r, q, h => by
    unfold mapF at h
    split at h
    · rename_i hp
      split at h
      · cases h
      · cases hr : mapF t f r with
        | none => rw [hr] at h; cases h
        | some q' =>
          rw [hr] at h
          simp at h
          subst h
          have hgv : ∀ v, g ⟨p.table, p.key, v⟩ = false := fun v => (hg ⟨p.table, p.key, v⟩ p rfl).trans (ht p hp)
          rw [List.filter_cons, List.filter_cons, if_neg (by rw [hgv]; simp), if_neg (by rw [ht p hp]; simp), mapF_other g hg ht r q' hr]
    · rename_i hp
      cases hr : mapF t f r with
      | none => rw [hr] at h; cases h
      | some q' =>
        rw [hr] at h
        simp at h
        subst h
        rw [List.filter_cons, List.filter_cons, mapF_other g hg ht r q' hr]
theorem spk_same (s : Sp) (p q : Pr) (h : p.table = q.table) : spk s p = spk s q := by unfold spk; rw [h]
def Alone (l : List Pr) (s : Sp) : Prop := (madeL (l.filter (spk s)) s).2 = (madeL l s).2 ∧ ((madeL l s).2 = 0 → ((madeL l s).1.filter (spk s)).Perm (madeL (l.filter (spk s)) s).1 ∧ ((madeL l s).1.filter fun p => !spk s p).Perm (l.filter fun p => !spk s p))
theorem filter_snoc_yes {l : List Pr} {g : Pr → Bool} {p : Pr} (h : g p = true) : (l ++ [p]).filter g = l.filter g ++ [p] := by rw [List.filter_append, List.filter_cons, if_pos h]; rfl
theorem filter_snoc_no {l : List Pr} {g : Pr → Bool} {p : Pr} (h : g p = false) : (l ++ [p]).filter g = l.filter g := by rw [List.filter_append, List.filter_cons, if_neg (by rw [h]; simp)]; simp
theorem made_alone_put {l : List Pr} {s : Sp} (k : s.kind = 1) : Alone l s := by
  have h1 := idx_filter (l := l) (s := s) (k := s.key)
  cases hi : idxL l s.table s.key with
  | some i =>
    rw [hi] at h1
    have e1 : madeL l s = ([], 161) := by unfold madeL; rw [if_pos k, hi]; rfl
    have e2 : madeL (l.filter (spk s)) s = ([], 161) := by unfold madeL; rw [if_pos k, h1]; rfl
    unfold Alone
    rw [e1, e2]
    exact ⟨rfl, fun h => absurd h (by decide)⟩
  | none =>
    rw [hi] at h1
    have e1 : madeL l s = (l ++ [⟨s.table, s.key, s.text⟩], 0) := by unfold madeL; rw [if_pos k, hi]; rfl
    have e2 : madeL (l.filter (spk s)) s = (l.filter (spk s) ++ [⟨s.table, s.key, s.text⟩], 0) := by unfold madeL; rw [if_pos k, h1]; rfl
    have hs : spk s ⟨s.table, s.key, s.text⟩ = true := spk_table rfl
    unfold Alone
    rw [e1, e2]
    refine ⟨rfl, fun _ => ⟨List.Perm.of_eq (filter_snoc_yes hs), List.Perm.of_eq (filter_snoc_no (by rw [hs]; rfl))⟩⟩
theorem made_alone_drop {l : List Pr} {s : Sp} (k : s.kind = 2) : Alone l s := by
  have e : ∀ m : List Pr, madeL m s = (butL m s.table s.key, 0) := fun m => by unfold madeL; rw [if_neg (by omega), if_pos k]
  unfold Alone
  rw [e, e]
  refine ⟨rfl, fun _ => ⟨List.Perm.of_eq ?_, List.Perm.of_eq ?_⟩⟩
  · show List.filter (spk s) (butL l s.table s.key) = butL _ _ _
    unfold butL
    rw [List.filter_filter, List.filter_filter]
    exact List.filter_congr fun x _ => Bool.and_comm _ _
  · show List.filter _ (butL l s.table s.key) = _
    unfold butL
    rw [List.filter_filter]
    refine List.filter_congr fun x _ => ?_
    cases hx : goes s.table s.key x with
    | false => simp
    | true =>
      have : x.table = s.table := by
        unfold goes at hx
        simp only [Bool.and_eq_true, decide_eq_true_eq] at hx
        exact hx.1
      rw [spk_table this]
      rfl
theorem made_alone_name {l : List Pr} {s : Sp} (ha : Asc l) (k : s.kind = 3 ∨ s.kind = 6) : Alone l s := by
  have h1 := idx_filter (l := l) (s := s) (k := s.key)
  have h2 := idx_filter (l := l) (s := s) (k := s.to)
  have n1 : ¬ s.kind = 1 := by omega
  have n2 : ¬ s.kind = 2 := by omega
  cases hi : idxL l s.table s.key with
  | none =>
    rw [hi] at h1
    have h1' : idxL (l.filter (spk s)) s.table s.key = none := by simpa using h1
    have e1 : madeL l s = (l, 0) := by unfold madeL; rw [if_neg n1, if_neg n2, if_pos k, hi]
    have e2 : madeL (l.filter (spk s)) s = (l.filter (spk s), 0) := by unfold madeL; rw [if_neg n1, if_neg n2, if_pos k, h1']
    unfold Alone
    rw [e1, e2]
    exact ⟨rfl, fun _ => ⟨List.Perm.refl _, List.Perm.refl _⟩⟩
  | some i =>
    rw [hi] at h1
    obtain ⟨i', hi'⟩ := Option.isSome_iff_exists.1 h1
    obtain ⟨p, hp, t1, t2, _⟩ := idx_some hi
    obtain ⟨p', hp', t1', t2', _⟩ := idx_some hi'
    obtain rfl : p' = p := asc_same ha (List.mem_filter.1 (List.mem_of_getElem? hp')).1 (List.mem_of_getElem? hp) (t1'.trans t1.symm) (t2'.trans t2.symm)
    cases hj : idxL l s.table s.to with
    | some j =>
      rw [hj] at h2
      obtain ⟨j', hj'⟩ := Option.isSome_iff_exists.1 h2
      have e1 : madeL l s = ([], 161) := by unfold madeL; rw [if_neg n1, if_neg n2, if_pos k, hi, hj]; rfl
      have e2 : madeL (l.filter (spk s)) s = ([], 161) := by unfold madeL; rw [if_neg n1, if_neg n2, if_pos k, hi', hj']; rfl
      unfold Alone
      rw [e1, e2]
      exact ⟨rfl, fun h => absurd h (by decide)⟩
    | none =>
      rw [hj] at h2
      have h2' : idxL (l.filter (spk s)) s.table s.to = none := by simpa using h2
      by_cases k6 : s.kind = 6
      · have e1 : madeL l s = (l ++ [⟨s.table, s.to, p'.value⟩], 0) := by unfold madeL; rw [if_neg n1, if_neg n2, if_pos k, hi, hj]; simp [hp, k6]
        have e2 : madeL (l.filter (spk s)) s = (l.filter (spk s) ++ [⟨s.table, s.to, p'.value⟩], 0) := by unfold madeL; rw [if_neg n1, if_neg n2, if_pos k, hi', h2']; simp [hp', k6]
        have hs : spk s ⟨s.table, s.to, p'.value⟩ = true := spk_table rfl
        unfold Alone
        rw [e1, e2]
        exact ⟨rfl, fun _ => ⟨List.Perm.of_eq (filter_snoc_yes hs), List.Perm.of_eq (filter_snoc_no (by rw [hs]; rfl))⟩⟩
      · have e1 : madeL l s = (l.set i { p' with key := s.to }, 0) := by unfold madeL; rw [if_neg n1, if_neg n2, if_pos k, hi, hj]; simp [hp, k6]
        have e2 : madeL (l.filter (spk s)) s = ((l.filter (spk s)).set i' { p' with key := s.to }, 0) := by unfold madeL; rw [if_neg n1, if_neg n2, if_pos k, hi', h2']; simp [hp', k6]
        have hs : spk s { p' with key := s.to } = true := spk_table t1
        have hs' : spk s p' = true := spk_table t1
        unfold Alone
        rw [e1, e2]
        refine ⟨rfl, fun _ => ⟨?_, ?_⟩⟩
        · have c1 := (perm_split hp).filter (spk s)
          rw [List.filter_cons, if_pos hs'] at c1
          have c2 := (List.perm_cons p').1 (c1.symm.trans (perm_split hp'))
          refine ((set_perm hp).filter (spk s)).trans ?_
          rw [List.filter_cons, if_pos hs]
          exact (c2.cons _).trans (set_perm hp').symm
        · refine ((set_perm hp).filter _).trans ?_
          rw [List.filter_cons, if_neg (by rw [hs]; simp)]
          have c1 := (perm_split hp).filter fun p => !spk s p
          rw [List.filter_cons, if_neg (by rw [hs']; simp)] at c1
          exact c1.symm
theorem any_filter {l : List Pr} {s : Sp} {t : List UInt8} (h : ∀ p : Pr, p.table = t → spk s p = true) : (l.filter (spk s)).any (fun p => decide (p.table = t)) = l.any fun p => decide (p.table = t) := by
  rw [Bool.eq_iff_iff, List.any_eq_true, List.any_eq_true]
  constructor
  · rintro ⟨x, hx, h1⟩
    exact ⟨x, (List.mem_filter.1 hx).1, h1⟩
  · rintro ⟨x, hx, h1⟩
    exact ⟨x, List.mem_filter.2 ⟨hx, h x (by simpa using h1)⟩, h1⟩
theorem made_alone_tab {l : List Pr} {s : Sp} (k : s.kind = 4) : Alone l s := by
  have n1 : ¬ s.kind = 1 := by omega
  have n2 : ¬ s.kind = 2 := by omega
  have n3 : ¬ (s.kind = 3 ∨ s.kind = 6) := by omega
  have st : ∀ p : Pr, p.table = s.to → spk s p = true := fun p h => by unfold spk; rw [decide_eq_true k, decide_eq_true h]; simp
  have a1 := any_filter (l := l) (s := s) (t := s.table) fun p h => spk_table h
  have a2 := any_filter (l := l) (s := s) (t := s.to) st
  have hF : ∀ x, spk s (tabF s.table s.to x) = spk s x := by
    intro x
    unfold tabF
    split
    · rename_i h
      rw [st _ rfl, spk_table h]
    · rfl
  have eq : ∀ m : List Pr, madeL m s = if m.any (fun p => decide (p.table = s.table)) = true then (if m.any (fun p => decide (p.table = s.to)) = true then ([], 161) else (m.map (tabF s.table s.to), 0)) else (m, 0) := fun m => by unfold madeL; rw [if_neg n1, if_neg n2, if_neg n3, if_pos k]
  unfold Alone
  rw [eq, eq, a1, a2]
  cases l.any (fun p => decide (p.table = s.table)) with
  | false => exact ⟨rfl, fun _ => ⟨List.Perm.refl _, List.Perm.refl _⟩⟩
  | true =>
    cases l.any (fun p => decide (p.table = s.to)) with
    | true => exact ⟨rfl, fun h => absurd (show ¬ ((161 : Int) = 0) by decide) (fun h2 => h2 h)⟩
    | false =>
      refine ⟨rfl, fun _ => ⟨List.Perm.of_eq ?_, List.Perm.of_eq ?_⟩⟩
      · show (l.map (tabF s.table s.to)).filter (spk s) = (l.filter (spk s)).map (tabF s.table s.to)
        rw [List.filter_map]
        congr 1
        exact List.filter_congr fun x _ => hF x
      · show (l.map (tabF s.table s.to)).filter (fun p => !spk s p) = l.filter fun p => !spk s p
        rw [List.filter_map]
        have : l.filter ((fun p => !spk s p) ∘ tabF s.table s.to) = l.filter fun p => !spk s p := List.filter_congr fun x _ => by show (!spk s (tabF s.table s.to x)) = _; rw [hF]
        rw [this]
        conv => rhs; rw [← List.map_id (l.filter fun p => !spk s p)]
        refine List.map_congr_left fun x hx => ?_
        unfold tabF
        rw [if_neg]
        · rfl
        · intro e
          have h2 := (List.mem_filter.1 hx).2
          rw [spk_table e] at h2
          cases h2
theorem made_alone_fn {l : List Pr} {s : Sp} (k : s.kind = 5) : Alone l s := by
  have n1 : ¬ s.kind = 1 := by omega
  have n2 : ¬ s.kind = 2 := by omega
  have n3 : ¬ (s.kind = 3 ∨ s.kind = 6) := by omega
  have n4 : ¬ s.kind = 4 := by omega
  have eq : ∀ m : List Pr, madeL m s = match mapF s.table s.text m with | none => ([], 162) | some q => (q, 0) := fun m => by unfold madeL; rw [if_neg n1, if_neg n2, if_neg n3, if_neg n4]; rfl
  unfold Alone
  rw [eq, eq, mapF_filter (spk s) (spk_same s) (fun p h => spk_table h)]
  cases hq : mapF s.table s.text l with
  | none => exact ⟨rfl, fun h => absurd h (by decide)⟩
  | some q => exact ⟨rfl, fun _ => ⟨List.Perm.refl _, List.Perm.of_eq (mapF_other (fun p => !spk s p) (fun p q h => by show (!spk s p) = !spk s q; rw [spk_same s p q h]) (fun p h => by show (!spk s p) = false; rw [spk_table h]; rfl) l q hq)⟩⟩
theorem made_alone {l : List Pr} {s : Sp} (ha : Asc l) (hr : RightS s) : Alone l s := by
  rcases hr.kinds with k | k | k | k | k | k
  · exact made_alone_put k
  · exact made_alone_drop k
  · exact made_alone_name ha (.inl k)
  · exact made_alone_tab k
  · exact made_alone_fn k
  · exact made_alone_name ha (.inr k)
theorem may_filter {l : List Pr} (h : mayL l = true) (g : Pr → Bool) : mayL (l.filter g) = true := by
  obtain ⟨h1, _, h3⟩ := may_parts h
  exact may_of (Nat.le_trans (List.length_filter_le _ _) h1) (fun p hp => may_words h p (List.mem_filter.1 hp).1) (List.Pairwise.filter _ h3)
/-- THE STAGE'S THEOREM, in plain words. -/
theorem alone {l : List Pr} {s : Sp} (h1 : (applyL l s).2 ≠ 1) (h2 : (applyL l s).2 ≠ 163) : (applyL (l.filter (spk s)) s).2 = (applyL l s).2 ∧
    ((applyL l s).2 = 0 → (applyL l s).1.filter (spk s) = (applyL (l.filter (spk s)) s).1 ∧ ((applyL l s).1.filter fun p => !spk s p) = l.filter fun p => !spk s p) := by
  have hm : mayL l = true := by
    cases h : mayL l with
    | true => rfl
    | false => exact absurd (by unfold applyL; rw [if_neg (by rw [h]; simp)]) h1
  have hmo := may_filter hm (spk s)
  by_cases hr : rightL s = true
  · obtain ⟨e, hp⟩ := made_alone (may_parts hm).2.2 (right_parts hr)
    rcases apply_made hm hr with ⟨n0, ea⟩ | ⟨_, _, ea⟩ | ⟨n0, hl, e0, pa, aa⟩
    · rcases apply_made hmo hr with ⟨m0, eb⟩ | ⟨m0, _, _⟩ | ⟨m0, _⟩
      · rw [ea, eb]
        exact ⟨e, fun h => absurd h n0⟩
      · exact absurd (e.symm.trans m0) n0
      · exact absurd (e.symm.trans m0) n0
    · rw [ea] at h2; exact absurd rfl h2
    · obtain ⟨p1, p2⟩ := hp n0
      have hle : (madeL (l.filter (spk s)) s).1.length ≤ 500 := by
        have := p1.length_eq
        have h3 := List.length_filter_le (spk s) (madeL l s).1
        omega
      rcases apply_made hmo hr with ⟨m0, _⟩ | ⟨_, hlen, _⟩ | ⟨m0, _, f0, pb, ab⟩
      · exact absurd (e.trans n0) m0
      · omega
      · refine ⟨by rw [f0, e0], fun _ => ⟨asc_unique (List.Pairwise.filter _ aa) ab ((pa.symm.filter _).trans (p1.trans pb)), asc_unique (List.Pairwise.filter _ aa) (List.Pairwise.filter _ (may_parts hm).2.2) ((pa.symm.filter _).trans p2)⟩⟩
  · have e : ∀ m : List Pr, mayL m = true → applyL m s = ([], 160) := fun m h => by unfold applyL; rw [if_pos h, if_neg hr]
    rw [e l hm, e _ hmo]
    exact ⟨rfl, fun h => absurd h (by decide)⟩
theorem asc_next {a : List Pr} (h : Asc a) {i : Nat} {p q : Pr} (hp : a[i]? = some p) (hq : a[i + 1]? = some q) : ltP p q = true := ascB_at a i q p (asc_to a h) hp hq
end Go.Proofs.YthjcifokmcbaoaaGreatDoor.st
/- law 16: speaks and but. Conditions: at most 100000 pairs. -/
namespace Go.Proofs.YthjcifokmcbaoaaGreatDoor.st
open Go.ChangeShapes Go.WideShapes Go.ChangeAt Go.RowKit gl ls

theorem seq_dec (a b : List UInt8) : ((B a).toList == (B b).toList) = decide (a = b) := by
  by_cases h : a = b
  · rw [decide_eq_true h]; exact seq_true (by rw [h])
  · rw [decide_eq_false h]; exact seq_false (fun e => h (B_inj e))
set_option maxHeartbeats 2000000 in
theorem speaks_any (s : Sp) (t : List UInt8) (x : Pr) (ht : x.table = t) (w : World) : Calls Tryz.prog 78 #[spA s, .string (B t)] w fun e w' => e = .returned (.bool (spk s x)) ∧ Below w.heap.size w w' := by
  unfold spA
  have HI : Hid (spk s x = (decide (s.table = t) || (decide (s.kind = 4) && decide (s.to = t)))) := Lib.hid (by
    unfold spk
    rw [ht]
    rw [show decide (t = s.table) = decide (s.table = t) by rw [Bool.eq_iff_iff]; simp [eq_comm], show decide (t = s.to) = decide (s.to = t) by rw [Bool.eq_iff_iff]; simp [eq_comm]])
  have Hb := Lib.hid ((Below.refl w.heap.size w).alloc (Nat.le_refl _) (.cells #[.int .i64 s.kind, .string (B s.table), .string (B s.key), .string (B s.to), .string (B s.text)] 42))
  have q1 := seq_dec s.table t
  have q2 := seq_dec s.to t
  have q3 : (s.kind == 4) = decide (s.kind = 4) := rfl
  generalize spk s x = r at *
  generalize decide (s.table = t) = d1 at *
  generalize decide (s.to = t) = d2 at *
  generalize hd3 : decide (s.kind = 4) = d3 at *
  clear hd3
  generalize B s.table = x1 at *
  generalize B s.key = x2 at *
  generalize B s.to = x3 at *
  generalize B s.text = x4 at *
  generalize B t = tt at *
  cases d1
  · cases d3
    · go_enter Tryz.func78, Tryz.ntmps78
      go_wp2_with fail
      go_ret
      exact ⟨ret_bool (by rw [HI.out]; rfl), Hb.out⟩
    · go_enter Tryz.func78, Tryz.ntmps78
      go_wp2_with fail
      go_ret
      exact ⟨ret_bool (by rw [HI.out]; simp), Hb.out⟩
  · go_enter Tryz.func78, Tryz.ntmps78
    go_wp2_with fail
    go_ret
    exact ⟨ret_bool (by rw [HI.out]; rfl), Hb.out⟩
def butS (s : Sp) (b : Bool) (l : List Pr) : List Pr := l.filter fun p => spk s p == b
theorem butS_in {l : List Pr} {k : Nat} {x : Pr} {s : Sp} {b : Bool} (h : l[k]? = some x) (hg : spk s x = b) : butS s b (l.take (k + 1)) = butS s b (l.take k) ++ [x] := by
  rw [take_at h]; unfold butS; rw [List.filter_append, List.filter_cons, if_pos (by rw [hg]; simp)]; rfl
theorem butS_out {l : List Pr} {k : Nat} {x : Pr} {s : Sp} {b : Bool} (h : l[k]? = some x) (hg : ¬ spk s x = b) : butS s b (l.take (k + 1)) = butS s b (l.take k) := by
  rw [take_at h]; unfold butS; rw [List.filter_append, List.filter_cons, if_neg (by simpa using hg)]; simp
theorem butS_len (l : List Pr) (k : Nat) (s : Sp) (b : Bool) : (butS s b (l.take k)).length ≤ k := Nat.le_trans (List.length_filter_le _ _) (List.length_take_le _ _)
set_option maxHeartbeats 4000000 in
set_option maxRecDepth 100000 in
theorem but_any (p : Option Addr) (m c : Nat) (l : List Pr) (s : Sp) (sp : Bool) (hm : m ≤ 2147483647) (w : World) (h : Prs w (.slice p m c) l) :
    Calls Tryz.prog 38 #[.slice p m c, spA s, .bool sp] w fun e w' => ∃ v, e = .returned v ∧ OwnP w.heap.size w' v (butS s sp l) ∧ Below w.heap.size w w' := by
  obtain ⟨hlen, hmc, hptr⟩ := h.ptr
  have HSp := Lib.hid fun (x : Pr) (W : World) => speaks_any s x.table x rfl W
  unfold spA at HSp ⊢
  obtain ⟨wA, hA⟩ : ∃ wA, wA = w.alloc (.cells #[.int .i64 s.kind, .string (B s.table), .string (B s.key), .string (B s.to), .string (B s.text)] 42) := ⟨_, rfl⟩
  obtain ⟨hbA, c0, c1, c2, c3, c4⟩ := box1 hA
  have hzA : wA.heap.size = w.heap.size + 1 := by rw [hA]; simp
  have HL := Lib.hid (h.later hbA)
  have Hlen := Lib.hid hlen
  have HP := Lib.hid hptr
  have HA := Lib.hid hA
  have HbA := Lib.hid hbA
  have HzA := Lib.hid hzA
  have C0 := Lib.hid c0
  have C1 := Lib.hid c1
  have C2 := Lib.hid c2
  have C3 := Lib.hid c3
  have C4 := Lib.hid c4
  obtain ⟨i0, hi, hz0, hz1, hz2⟩ := info_parts infoPr
  clear h hlen hptr hA hbA hzA c0 c1 c2 c3 c4
  generalize B s.table = x1 at *
  generalize B s.key = x2 at *
  generalize B s.to = x3 at *
  generalize B s.text = x4 at *
  go_enter Tryz.func38, Tryz.ntmps38
  go_wp2_with fail
  rw [← HA.out]
  go_loopw [7, 8] (fun v i wr => ∃ k : Nat, k ≤ m ∧ i = .int .i64 k ∧ Hid (OwnP (w.heap.size + 1) wr v (butS s sp (l.take k))) ∧ Hid (Below wA.heap.size wA wr)) (fun _ i _ => m - (intOf i).toNat)
  case atStart => exact ⟨0, by omega, rfl, Lib.hid (own_none _ _), Lib.hid (Below.refl _ _)⟩
  case round =>
    obtain ⟨k, hk, rfl, Hown, Hb⟩ := hrel
    by_cases hlt : k < m
    · obtain ⟨b, o, rfl, hbl⟩ := HP.out (by omega)
      obtain ⟨x, hx⟩ : ∃ x, l[k]? = some x := ⟨_, List.getElem?_eq_getElem (by rw [Hlen.out]; exact hlt)⟩
      obtain ⟨e0, e1, e2⟩ := prs_cells (HL.out.later Hb.out) hx
      have d0 := cell_then C0.out Hb.out
      have d1 := cell_then C1.out Hb.out
      have d2 := cell_then C2.out Hb.out
      have d3 := cell_then C3.out Hb.out
      have d4 := cell_then C4.out Hb.out
      have hki : (k : Int) < (m : Int) := by omega
      have hk5 : (0 : Int) ≤ (k : Int) := by omega
      have HQ := Lib.hid (HSp.out x)
      have hbs : w.heap.size + 1 ≤ wr.heap.size := by rw [← HzA.out]; exact Hb.out.size
      have Hx := Lib.hid hx
      have HX := Lib.hid (snoc_pr x)
      have hbl5 := butS_len l k s sp
      clear hx
      by_cases hs : spk s x = sp
      · have HI := Lib.hid (butS_in Hx.out hs)
        rw [hs] at HQ
        clear hs
        have q1 : (sp == sp) = true := by simp
        generalize B x.table = y1 at *
        generalize B x.key = y2 at *
        generalize B x.value = y3 at *
        go_wp2_with fail
        go_still_tail 6, (by kernel_rfl)
        go_wp2_with fail
        refine (HQ.out _).mono ?_
        rintro e w5 ⟨rfl, hb5⟩
        have hb5' : Below wr.heap.size wr w5 := (Below.drew (Below.refl _ wr)).trans hb5
        have HO5 := Lib.hid (ls.own_kept Hown.out hb5')
        have HB4 := Lib.hid (then_bel Hb.out hb5')
        have g0 := cell_then e0 hb5'
        have g1 := cell_then e1 hb5'
        have g2 := cell_then e2 hb5'
        have hz5 := hb5'.size
        clear hb5 hb5' d0 d1 d2 d3 d4 e0 e1 e2
        focus
          go_wp2_with (at_builtin; go_must (refine wpList_append_k rfl _ _ 44 rfl 57 i0 _ 3 48 Tryz.underlying44 hi hz0 hz1 hz2 rfl (by omega) _ (by rfl) (by rfl) (w.heap.size + 1) _ _ _ (by rfl) HO5.out (by simp [Value.oneCell']) (by omega) (by omega) (by omega) ?_))
        intro g' cap' w6 hown6 hgrow hat hz6 hlt6
        have Hown6 := Lib.hid hown6
        have HB6 := Lib.hid (grown_bel HB4.out HO5.out hgrow (by rw [HzA.out]; exact Nat.le_refl _) (by rw [HzA.out]; omega))
        clear hown6 hgrow hat hlt6
        go_wp2_with fail
        go_roundw
        case rel => exact ⟨k + 1, by omega, by go_num, Lib.hid (by rw [HI.out]; exact own_snoc Hown6.out rfl (HX.out _)), HB6⟩
        case measure => simp [intOf]; omega
      · have HI := Lib.hid (butS_out Hx.out hs)
        have q1 : (spk s x == sp) = false := by rw [beq_eq_false_iff_ne]; exact hs
        generalize spk s x = ss at *
        clear hs
        generalize B x.table = y1 at *
        generalize B x.key = y2 at *
        generalize B x.value = y3 at *
        go_wp2_with fail
        go_still_tail 6, (by kernel_rfl)
        go_wp2_with fail
        refine (HQ.out _).mono ?_
        rintro e w5 ⟨rfl, hb5⟩
        have hb5' : Below wr.heap.size wr w5 := (Below.drew (Below.refl _ wr)).trans hb5
        have HO5 := Lib.hid (ls.own_kept Hown.out hb5')
        have HB4 := Lib.hid (then_bel Hb.out hb5')
        clear hb5 hb5' d0 d1 d2 d3 d4 e0 e1 e2
        go_wp2_with fail
        go_roundw
        case rel => exact ⟨k + 1, by omega, by go_num, Lib.hid (by rw [HI.out]; exact HO5.out), HB4⟩
        case measure => simp [intOf]; omega
    · obtain rfl : k = m := by omega
      have HT : Hid (l.take k = l) := Lib.hid (by rw [← Hlen.out]; exact List.take_length)
      go_wp2_with fail
      go_ret
      refine ⟨_, rfl, ?_, HbA.out.trans (Hb.out.mono HbA.out.size)⟩
      have := Hown.out.base (M' := w.heap.size) (by omega)
      rw [HT.out] at this
      exact this
end Go.Proofs.YthjcifokmcbaoaaGreatDoor.st
/- StepBack returns true. Condition: the listed variables hold what the program's text lays. -/
namespace Go.Proofs.YthjcifokmcbaoaaGreatDoor.st
open Go.ChangeShapes Go.WideShapes Go.ChangeAt Go.RowKit gl ls
theorem nil_le : ([] : List UInt8).length ≤ 2147483647 := by decide
theorem word_len {x : List UInt8} (h : wordL x = true) : x.length ≤ 32 := by
  unfold wordL at h
  simp only [Bool.and_eq_true, decide_eq_true_eq] at h
  exact h.2.2
theorem may_sz {R : List Pr} (h : mayL R = true) : (∀ x ∈ R, PrSz x) ∧ R.length ≤ 500 := by
  obtain ⟨h1, h2, _⟩ := may_parts h
  refine ⟨fun x hx => ?_, h1⟩
  obtain ⟨a, b, c⟩ := h2 x hx
  have := word_len a
  have := word_len b
  exact ⟨by omega, by omega, by omega⟩
theorem out_sz {l R : List Pr} {s : Sp} {E : Int} (h : applyL l s = (R, E)) : (∀ x ∈ R, PrSz x) ∧ R.length ≤ 500 := by
  by_cases h0 : E = 0
  · have h1 : (applyL l s).2 = 0 := by rw [h]; exact h0
    have := apply_may h1
    rw [h] at this
    exact may_sz this
  · have h1 : (applyL l s).2 ≠ 0 := by rw [h]; exact h0
    have := apply_err h1
    rw [h] at this
    simp only at this
    subst this
    exact ⟨fun x hx => (by cases hx), by simp⟩
theorem put_facts {l R : List Pr} {t k x : List UInt8} {E : Int} (h : applyL l ⟨1, t, k, [], x⟩ = (R, E)) (h0 : E = 0) : applyL R ⟨2, t, k, [], []⟩ = (l, 0) ∧ R.length = l.length + 1 := by
  have := put_back (l := l) (t := t) (k := k) (x := x) (by rw [h]; exact h0)
  rw [h] at this
  exact this
theorem ren_facts {l R : List Pr} {t k u : List UInt8} {E : Int} (h : applyL l ⟨3, t, k, u, []⟩ = (R, E)) (h0 : E = 0) : (R = l ∨ applyL R ⟨3, t, u, k, []⟩ = (l, 0)) ∧ R.length = l.length := by
  have := rename_back (l := l) (t := t) (k := k) (u := u) (by rw [h]; exact h0)
  rw [h] at this
  exact this
theorem tab_facts {l R : List Pr} {t u : List UInt8} {E : Int} (h : applyL l ⟨4, t, [], u, []⟩ = (R, E)) (h0 : E = 0) : (R = l ∨ applyL R ⟨4, u, [], t, []⟩ = (l, 0)) ∧ R.length = l.length := by
  have := table_back (l := l) (t := t) (u := u) (by rw [h]; exact h0)
  rw [h] at this
  exact this
def onceL : List (List UInt8) := [nLower, nUpper, nTrim]
theorem once_facts {l R : List Pr} {t f : List UInt8} {E : Int} {j : Nat} (hf : onceL[j]? = some f) (h : applyL l ⟨5, t, [], [], f⟩ = (R, E)) (h0 : E = 0) : applyL R ⟨5, t, [], [], f⟩ = (R, 0) ∧ R.length = l.length := by
  have hm : f = nLower ∨ f = nUpper ∨ f = nTrim := by
    have := List.mem_of_getElem? hf
    simpa [onceL] using this
  have := map_once (l := l) (t := t) hm (by rw [h]; exact h0)
  rw [h] at this
  exact this
theorem once_len {f : List UInt8} {j : Nat} (hf : onceL[j]? = some f) : f.length ≤ 2147483647 := by
  have := List.mem_of_getElem? hf
  simp only [onceL, List.mem_cons, List.not_mem_nil, or_false] at this
  rcases this with rfl | rfl | rfl <;> decide
theorem rev_facts {l R : List Pr} {t : List UInt8} {E : Int} (h : applyL l ⟨5, t, [], [], nReverse⟩ = (R, E)) (h0 : E = 0) : applyL R ⟨5, t, [], [], nReverse⟩ = (l, 0) := by
  have := reverse_back (l := l) (t := t) (by rw [h]; exact h0)
  rw [h] at this
  exact this
theorem same_some (p p' : Option Addr) (m m' c c' : Nat) (l l' : List Pr) (hl : m ≤ 4294967295) (hl' : m' ≤ 4294967295) (w : World) (h : Prs w (.slice p m c) l) (h' : Prs w (.slice p' m' c') l') :
    Calls Tryz.prog 37 #[.slice p m c, .slice p' m' c'] w fun e w' => ∃ r : Bool, e = .returned (.bool r) ∧ Hid (l = l' → r = true) ∧ Below w.heap.size w w' := by
  refine (same_any p p' m m' c c' l l' hl hl' w h h').mono ?_
  rintro e w' ⟨r, he, hr, q, rfl⟩
  exact ⟨r, he, Lib.hid hr, drewN_bel w q⟩
theorem same_true (p p' : Option Addr) (m m' c c' : Nat) (l : List Pr) (hl : m ≤ 4294967295) (hl' : m' ≤ 4294967295) (w : World) (h : Prs w (.slice p m c) l) (h' : Prs w (.slice p' m' c') l) :
    Calls Tryz.prog 37 #[.slice p m c, .slice p' m' c'] w fun e w' => e = .returned (.bool true) ∧ Below w.heap.size w w' := by
  refine (same_any p p' m m' c c' l l hl hl' w h h').mono ?_
  rintro e w' ⟨r, he, hr, q, rfl⟩
  rw [hr rfl] at he
  exact ⟨he, drewN_bel w q⟩
set_option maxHeartbeats 16000000 in
set_option maxRecDepth 100000 in
theorem stepBack_any (p : Option Addr) (c : Nat) (l : List Pr) (hm : l.length ≤ 9223372036854775807) (t k u x : List UInt8) (w : World) (h : Prs w (.slice p l.length c) l) (hS : Slo w) :
    Calls Tryz.prog 6 #[.slice p l.length c, .string (B t), .string (B k), .string (B u), .string (B x)] w fun e w' => e = .returned (.bool true) ∧ Below w.heap.size w w' := by
  have HW := Lib.hid (pairsWeigh_any p l.length c l hm w h)
  have HAw := Lib.hid fun (W : World) (hb : Below w.heap.size w W) => awake_any W (hS.later hb)
  have HApp := Lib.hid fun (p' : Option Addr) (m' c' : Nat) (L : List Pr) (s : Sp) (R : List Pr) (E : Int) (hR : applyL L s = (R, E)) (hm' : m' ≤ 4294967295) (hsz : ∀ x ∈ L, PrSz x) (hs : SpSz s) (W : World) (hb : Below w.heap.size w W) (hP : Prs W (.slice p' m' c') L) =>
    (Apply_any p' m' c' L s hm' hsz hs W (hS.later hb) hP).mono (R' := fun e w' => (∃ v, e = .returned (.tuple #[v, .int .i64 E]) ∧ NewPrs W.heap.size w' v R) ∧ Below W.heap.size W w') (by rw [hR]; exact fun e w' h => h)
  have HL := Lib.hid h
  have HAd := Lib.hid fun (a b : Int) (W : World) (ha : 0 ≤ a) (hb : 0 ≤ b) => addsUp_any a b W ha hb
  obtain ⟨m, hlen⟩ : ∃ m, m = l.length := ⟨_, rfl⟩
  rw [← hlen] at hm HW HL ⊢
  have Hlen := Lib.hid hlen
  clear h hlen hS
  go_enter Tryz.func6, Tryz.ntmps6
  go_wp2_with fail
  refine HW.out.mono ?_
  rintro e w1 ⟨⟨N, rfl, hN⟩, hb1⟩
  have HB1 := Lib.hid hb1
  have HN := Lib.hid hN
  have hN0 := hN.1
  clear hb1 hN
  go_wp2_with fail
  refine (HAd.out _ _ _ (by omega) (by omega)).mono ?_
  rintro e w2 ⟨rfl, hw⟩
  obtain rfl : w1 = w2 := hw.symm
  go_wp2_with fail
  refine (HAd.out _ _ _ (by omega) (by omega)).mono ?_
  rintro e w2 ⟨rfl, hw⟩
  obtain rfl : w1 = w2 := hw.symm
  go_wp2_with fail
  refine (HAd.out _ _ _ (addU_nn _ _) (addU_nn _ _)).mono ?_
  rintro e w2 ⟨rfl, hw⟩
  obtain rfl : w1 = w2 := hw.symm
  go_wp2_with fail
  refine (HAd.out _ _ _ hN0 (addU_nn _ _)).mono ?_
  rintro e w2 ⟨rfl, hw⟩
  obtain rfl : w1 = w2 := hw.symm
  have HSum : Hid (addU N (addU (addU (t.length : Int) (k.length : Int)) (addU (u.length : Int) (x.length : Int))) ≤ 2147483647 → N ≤ 2147483647 ∧ t.length ≤ 2147483647 ∧ k.length ≤ 2147483647 ∧ u.length ≤ 2147483647 ∧ x.length ≤ 2147483647) := Lib.hid (fun h => by
    obtain ⟨h1, h2⟩ := addU_parts h
    obtain ⟨h3, h4⟩ := addU_parts h2
    obtain ⟨h5, h6⟩ := addU_parts h3
    obtain ⟨h7, h8⟩ := addU_parts h4
    exact ⟨h1, by omega, by omega, by omega, by omega⟩)
  generalize addU N (addU (addU (t.length : Int) (k.length : Int)) (addU (u.length : Int) (x.length : Int))) = S at *
  by_cases hbig : 2147483647 < S
  · have q1 : decide (2147483647 < S) = true := by rw [decide_eq_true_iff]; exact hbig
    go_wp2_with fail
    go_ret
    exact ⟨rfl, HB1.out⟩
  have q1 : decide (2147483647 < S) = false := by rw [decide_eq_false_iff_not]; exact hbig
  obtain ⟨hNb, z1, z2, z3, z4⟩ := HSum.out (by omega)
  have HZ := Lib.hid (HN.out.2.2 hNb)
  have hm2 : m ≤ 2147483647 := by rw [Hlen.out]; exact HZ.out.1
  clear HSum hbig hNb
  go_wp2_with fail
  refine (HAw.out _ HB1.out).mono ?_
  rintro e w2 ⟨rfl, hb2⟩
  have HB2 := Lib.hid (then_bel HB1.out hb2)
  clear hb2 q1
  have hmi : (m : Int) ≤ 2147483647 := by omega
  have hmi0 : (0 : Int) ≤ (m : Int) := by omega
  obtain ⟨R3, E3, hR3⟩ : ∃ R E, applyL l ⟨1, t, k, [], x⟩ = (R, E) := ⟨_, _, rfl⟩
  have HR3 := Lib.hid hR3
  have HZR3 := Lib.hid (out_sz hR3)
  clear hR3
  go_wp2_with fail
  refine (HApp.out _ _ _ l ⟨1, t, k, [], x⟩ R3 E3 HR3.out (by omega) HZ.out.2 ⟨z1, z2, nil_le, z4⟩ _ HB2.out (HL.out.later HB2.out)).mono ?_
  rintro e w3 ⟨⟨v3, rfl, h3⟩, hb3⟩
  obtain ⟨p3, c3, rfl⟩ := h3.form
  have HP3 := Lib.hid (h3.rw prC_len)
  have HB3 := Lib.hid (then_bel HB2.out hb3)
  have HD3 := Lib.hid hb3
  clear h3 hb3
  go_upto_if 59 with (fail)
  go_cut [14] (fun _ wx => Hid (Below w.heap.size w wx))
  case first =>
    as_aux_lemma =>
      by_cases hE : E3 = 0
      · have HF := Lib.hid (put_facts HR3.out hE)
        have q2 : (E3 == 0) = true := by rw [beq_iff_eq]; exact hE
        have hr3 := HZR3.out.2
        have q3 : ((R3.length : Int) != (m : Int) + 1) = false := by rw [bne_eq_false_iff_eq, HF.out.2, ← Hlen.out]; omega
        generalize hRl : R3.length = n3 at *
        clear hE hRl
        go_wp2_with fail
        refine (HApp.out _ _ _ R3 ⟨2, t, k, [], []⟩ l 0 HF.out.1 (by omega) HZR3.out.1 ⟨z1, z2, nil_le, nil_le⟩ _ HB3.out HP3.out).mono ?_
        rintro e w4 ⟨⟨v4, rfl, h4⟩, hb4⟩
        obtain ⟨p4, c4, rfl⟩ := h4.form
        have HP4 := Lib.hid (h4.rw prC_len)
        rw [← Hlen.out] at HP4 ⊢
        have HB4 := Lib.hid (then_bel HB3.out hb4)
        clear h4 hb4
        go_wp2_with fail
        refine (same_true _ _ _ _ _ _ l (by omega) (by omega) _ HP4.out (HL.out.later HB4.out)).mono ?_
        rintro e w5 ⟨rfl, hb5⟩
        have HB5 := Lib.hid (then_bel HB4.out hb5)
        clear hb5
        go_wp2_with fail
        go_meet
        exact HB5
      · have q2 : (E3 == 0) = false := by rw [beq_eq_false_iff_ne]; exact hE
        clear hE
        go_wp2_with fail
        go_meet
        exact HB3
  case rest =>
    have HBc1 := hcut
    clear hcut
    obtain ⟨R6, E6, hR6⟩ : ∃ R E, applyL l ⟨3, t, k, u, []⟩ = (R, E) := ⟨_, _, rfl⟩
    have HR6 := Lib.hid hR6
    have HZR6 := Lib.hid (out_sz hR6)
    clear hR6
    go_wp2_with fail
    refine (HApp.out _ _ _ l ⟨3, t, k, u, []⟩ R6 E6 HR6.out (by omega) HZ.out.2 ⟨z1, z2, z3, nil_le⟩ _ HBc1.out (HL.out.later HBc1.out)).mono ?_
    rintro e w6 ⟨⟨v6, rfl, h6⟩, hb6⟩
    obtain ⟨p6, c6, rfl⟩ := h6.form
    have HP6 := Lib.hid (h6.rw prC_len)
    have HB6 := Lib.hid (then_bel HBc1.out hb6)
    have HD6 := Lib.hid hb6
    clear h6 hb6
    go_upto_if 95 with (fail)
    go_cut [17] (fun _ wx => Hid (Below w.heap.size w wx))
    case first =>
      as_aux_lemma =>
        by_cases hE : E6 = 0
        · have HF := Lib.hid (ren_facts HR6.out hE)
          have q2 : (E6 == 0) = true := by rw [beq_iff_eq]; exact hE
          have hr := HZR6.out.2
          have q3 : ((R6.length : Int) != (m : Int)) = false := by rw [bne_eq_false_iff_eq, HF.out.2, ← Hlen.out]
          have HK0 := Lib.hid HF.out.1
          generalize hRl : R6.length = n6 at *
          clear hE hRl HF
          rcases HK0.out with hK | hK
          · have HK := Lib.hid hK
            clear hK
            obtain ⟨R6b, E6b, hR6b⟩ : ∃ R E, applyL R6 ⟨3, t, u, k, []⟩ = (R, E) := ⟨_, _, rfl⟩
            have HR6b := Lib.hid hR6b
            have HZR6b := Lib.hid (out_sz hR6b)
            clear hR6b
            go_wp2_with fail
            refine (HApp.out _ _ _ R6 ⟨3, t, u, k, []⟩ R6b E6b HR6b.out (by omega) HZR6.out.1 ⟨z1, z3, z2, nil_le⟩ _ HB6.out (HP6.out)).mono ?_
            rintro e w7 ⟨⟨v7, rfl, h7⟩, hb7⟩
            obtain ⟨p7, c7, rfl⟩ := h7.form
            have HP7 := Lib.hid (h7.rw prC_len)
            have HB7 := Lib.hid (then_bel HB6.out hb7)
            have HPy6 := Lib.hid (HP6.out.later hb7)
            clear h7 hb7
            have hz7 := HZR6b.out.2
            generalize hRl7 : R6b.length = n7 at *
            clear hRl7
            go_wp2_with fail
            refine (same_some _ _ _ _ _ _ R6b l (by omega) (by omega) _ (HP7.out) (HL.out.later HB7.out)).mono ?_
            rintro e w8 ⟨ri, rfl, hri, hb8⟩
            have HB8 := Lib.hid (then_bel HB7.out hb8)
            have HPz6 := Lib.hid (HPy6.out.later hb8)
            clear hb8
            go_wp2_with fail
            refine (same_some _ _ _ _ _ _ R6 l (by omega) (by omega) _ (HPz6.out) (HL.out.later HB8.out)).mono ?_
            rintro e w9 ⟨rd, rfl, hrd, hb9⟩
            have HB9 := Lib.hid (then_bel HB8.out hb9)
            clear hb9
            obtain rfl : rd = true := by first | exact hrd.out HK.out | exact hrd.out trivial
            cases ri
            all_goals
              go_wp2_with fail
              go_meet
              exact HB9
          · have HK := Lib.hid hK
            clear hK
            go_wp2_with fail
            refine (HApp.out _ _ _ R6 ⟨3, t, u, k, []⟩ l 0 HK.out (by omega) HZR6.out.1 ⟨z1, z3, z2, nil_le⟩ _ HB6.out (HP6.out)).mono ?_
            rintro e w7 ⟨⟨v7, rfl, h7⟩, hb7⟩
            obtain ⟨p7, c7, rfl⟩ := h7.form
            have HP7 := Lib.hid (h7.rw prC_len)
            rw [← Hlen.out] at HP7 ⊢
            have HB7 := Lib.hid (then_bel HB6.out hb7)
            have HPy6 := Lib.hid (HP6.out.later hb7)
            clear h7 hb7
            go_wp2_with fail
            refine (same_some _ _ _ _ _ _ l l (by omega) (by omega) _ (HP7.out) (HL.out.later HB7.out)).mono ?_
            rintro e w8 ⟨ri, rfl, hri, hb8⟩
            have HB8 := Lib.hid (then_bel HB7.out hb8)
            have HPz6 := Lib.hid (HPy6.out.later hb8)
            clear hb8
            go_wp2_with fail
            refine (same_some _ _ _ _ _ _ R6 l (by omega) (by omega) _ (HPz6.out) (HL.out.later HB8.out)).mono ?_
            rintro e w9 ⟨rd, rfl, hrd, hb9⟩
            have HB9 := Lib.hid (then_bel HB8.out hb9)
            clear hb9
            obtain rfl : ri = true := by first | exact hri.out rfl | exact hri.out trivial
            cases rd
            all_goals
              go_wp2_with fail
              go_meet
              exact HB9
        · have q2 : (E6 == 0) = false := by rw [beq_eq_false_iff_ne]; exact hE
          clear hE
          go_wp2_with fail
          go_meet
          exact HB6
    case rest =>
      have HBc2 := hcut
      clear hcut
      obtain ⟨R10, E10, hR10⟩ : ∃ R E, applyL l ⟨4, t, [], u, []⟩ = (R, E) := ⟨_, _, rfl⟩
      have HR10 := Lib.hid hR10
      have HZR10 := Lib.hid (out_sz hR10)
      clear hR10
      go_wp2_with fail
      refine (HApp.out _ _ _ l ⟨4, t, [], u, []⟩ R10 E10 HR10.out (by omega) HZ.out.2 ⟨z1, nil_le, z3, nil_le⟩ _ HBc2.out (HL.out.later HBc2.out)).mono ?_
      rintro e w10 ⟨⟨v10, rfl, h10⟩, hb10⟩
      obtain ⟨p10, c10, rfl⟩ := h10.form
      have HP10 := Lib.hid (h10.rw prC_len)
      have HB10 := Lib.hid (then_bel HBc2.out hb10)
      have HD10 := Lib.hid hb10
      clear h10 hb10
      go_upto_if 137 with (fail)
      go_cut [22] (fun _ wx => Hid (Below w.heap.size w wx))
      case first =>
        as_aux_lemma =>
          by_cases hE : E10 = 0
          · have HF := Lib.hid (tab_facts HR10.out hE)
            have q2 : (E10 == 0) = true := by rw [beq_iff_eq]; exact hE
            have hr := HZR10.out.2
            have q3 : ((R10.length : Int) != (m : Int)) = false := by rw [bne_eq_false_iff_eq, HF.out.2, ← Hlen.out]
            have HK0 := Lib.hid HF.out.1
            generalize hRl : R10.length = n10 at *
            clear hE hRl HF
            rcases HK0.out with hK | hK
            · have HK := Lib.hid hK
              clear hK
              obtain ⟨R10b, E10b, hR10b⟩ : ∃ R E, applyL R10 ⟨4, u, [], t, []⟩ = (R, E) := ⟨_, _, rfl⟩
              have HR10b := Lib.hid hR10b
              have HZR10b := Lib.hid (out_sz hR10b)
              clear hR10b
              go_wp2_with fail
              refine (same_some _ _ _ _ _ _ R10 l (by omega) (by omega) _ (HP10.out) (HL.out.later HB10.out)).mono ?_
              rintro e w13 ⟨rd, rfl, hrd, hb13⟩
              have HB13 := Lib.hid (then_bel HB10.out hb13)
              have HPx10 := Lib.hid (HP10.out.later hb13)
              clear hb13
              go_wp2_with fail
              refine (HApp.out _ _ _ R10 ⟨4, u, [], t, []⟩ R10b E10b HR10b.out (by omega) HZR10.out.1 ⟨z3, nil_le, z1, nil_le⟩ _ HB13.out (HPx10.out)).mono ?_
              rintro e w11 ⟨⟨v11, rfl, h11⟩, hb11⟩
              obtain ⟨p11, c11, rfl⟩ := h11.form
              have HP11 := Lib.hid (h11.rw prC_len)
              have HB11 := Lib.hid (then_bel HB13.out hb11)
              have HPy10 := Lib.hid (HPx10.out.later hb11)
              clear h11 hb11
              have hz11 := HZR10b.out.2
              generalize hRl11 : R10b.length = n11 at *
              clear hRl11
              go_wp2_with fail
              refine (same_some _ _ _ _ _ _ R10b l (by omega) (by omega) _ (HP11.out) (HL.out.later HB11.out)).mono ?_
              rintro e w12 ⟨ri, rfl, hri, hb12⟩
              have HB12 := Lib.hid (then_bel HB11.out hb12)
              clear hb12
              obtain rfl : rd = true := by first | exact hrd.out HK.out | exact hrd.out trivial
              cases ri
              all_goals
                go_wp2_with fail
                go_meet
                exact HB12
            · have HK := Lib.hid hK
              clear hK
              go_wp2_with fail
              refine (same_some _ _ _ _ _ _ R10 l (by omega) (by omega) _ (HP10.out) (HL.out.later HB10.out)).mono ?_
              rintro e w13 ⟨rd, rfl, hrd, hb13⟩
              have HB13 := Lib.hid (then_bel HB10.out hb13)
              have HPx10 := Lib.hid (HP10.out.later hb13)
              clear hb13
              go_wp2_with fail
              refine (HApp.out _ _ _ R10 ⟨4, u, [], t, []⟩ l 0 HK.out (by omega) HZR10.out.1 ⟨z3, nil_le, z1, nil_le⟩ _ HB13.out (HPx10.out)).mono ?_
              rintro e w11 ⟨⟨v11, rfl, h11⟩, hb11⟩
              obtain ⟨p11, c11, rfl⟩ := h11.form
              have HP11 := Lib.hid (h11.rw prC_len)
              rw [← Hlen.out] at HP11 ⊢
              have HB11 := Lib.hid (then_bel HB13.out hb11)
              have HPy10 := Lib.hid (HPx10.out.later hb11)
              clear h11 hb11
              go_wp2_with fail
              refine (same_some _ _ _ _ _ _ l l (by omega) (by omega) _ (HP11.out) (HL.out.later HB11.out)).mono ?_
              rintro e w12 ⟨ri, rfl, hri, hb12⟩
              have HB12 := Lib.hid (then_bel HB11.out hb12)
              clear hb12
              obtain rfl : ri = true := by first | exact hri.out rfl | exact hri.out trivial
              cases rd
              all_goals
                go_wp2_with fail
                go_meet
                exact HB12
          · have q2 : (E10 == 0) = false := by rw [beq_eq_false_iff_ne]; exact hE
            clear hE
            go_wp2_with fail
            go_meet
            exact HB10
      case rest =>
        have HBc3 := hcut
        clear hcut
        obtain ⟨wO, hO⟩ : ∃ wO, wO = wc.alloc (.cells (rw.flat txC onceL).toArray 9) := ⟨_, rfl⟩
        have hbO : Below wc.heap.size wc wO := by rw [hO]; exact (Below.refl _ _).alloc (Nat.le_refl _) _
        have hTO : Txt wO (.slice (some ⟨wc.heap.size, 0, none⟩) 3 3) onceL := txt_block (l := onceL) (by rw [hO]; exact heap_alloc_new wc _) (by simp)
        have HTO := Lib.hid hTO
        have HBO := Lib.hid (then_bel HBc3.out hbO)
        have HO : Hid (wO = wc.alloc (.cells #[.string ⟨#[108, 111, 119, 101, 114]⟩, .string ⟨#[117, 112, 112, 101, 114]⟩, .string ⟨#[116, 114, 105, 109]⟩] 9)) := Lib.hid hO
        clear hbO hTO hO
        go_wp2_with fail
        rw [← HO.out]
        go_loopw [26] (fun i wr => ∃ j : Nat, j ≤ 3 ∧ i = .int .i64 j ∧ Hid (Below wO.heap.size wO wr)) (fun i _ => 3 - (intOf i).toNat)
        case atStart => exact ⟨0, by omega, rfl, Lib.hid (Below.refl _ _)⟩
        case round =>
          obtain ⟨j, hj, rfl, Hb⟩ := hrel
          have HBr := Lib.hid (then_bel HBO.out Hb.out)
          by_cases hlt : j < 3
          · as_aux_lemma =>
            have hji : (j : Int) < 3 := by omega
            have hj5 : (0 : Int) ≤ (j : Int) := by omega
            obtain ⟨f, hf⟩ : ∃ f, onceL[j]? = some f := ⟨_, List.getElem?_eq_getElem hlt⟩
            have e0 := txt_cell (HTO.out.later Hb.out) hf
            rw [Nat.zero_add] at e0
            have hfl := once_len hf
            have Hf := Lib.hid hf
            clear hf
            obtain ⟨R, E, hR⟩ : ∃ R E, applyL l ⟨5, t, [], [], f⟩ = (R, E) := ⟨_, _, rfl⟩
            have HR := Lib.hid hR
            have HZR := Lib.hid (out_sz hR)
            obtain ⟨Rb, Eb, hRb⟩ : ∃ Rb Eb, applyL R ⟨5, t, [], [], f⟩ = (Rb, Eb) := ⟨_, _, rfl⟩
            have HRb := Lib.hid hRb
            have HZb := Lib.hid (out_sz hRb)
            clear hR hRb
            go_wp2_with fail
            refine (HApp.out _ _ _ l ⟨5, t, [], [], f⟩ R E HR.out (by omega) HZ.out.2 ⟨z1, nil_le, nil_le, hfl⟩ _ HBr.out (HL.out.later HBr.out)).mono ?_
            rintro e w20 ⟨⟨v20, rfl, h20⟩, hb20⟩
            obtain ⟨p20, c20, rfl⟩ := h20.form
            have HP20 := Lib.hid (h20.rw prC_len)
            have HB20 := Lib.hid (then_bel HBr.out hb20)
            have e1 := cell_then e0 hb20
            have HE20 := Lib.hid (then_bel Hb.out hb20)
            clear h20 hb20 e0
            go_wp2_with fail
            refine (HApp.out _ _ _ R ⟨5, t, [], [], f⟩ Rb Eb HRb.out (by have := HZR.out.2; omega) HZR.out.1 ⟨z1, nil_le, nil_le, hfl⟩ _ HB20.out HP20.out).mono ?_
            rintro e w21 ⟨⟨v21, rfl, h21⟩, hb21⟩
            obtain ⟨p21, c21, rfl⟩ := h21.form
            have HP21 := Lib.hid (h21.rw prC_len)
            have HP20' := Lib.hid (HP20.out.later hb21)
            have HE21 := Lib.hid (then_bel HE20.out hb21)
            have hzr := HZR.out.2
            have hzb := HZb.out.2
            clear h21 hb21 e1
            go_wp2_with fail
            refine (same_some _ _ _ _ _ _ R Rb (by omega) (by omega) _ HP20'.out HP21.out).mono ?_
            rintro e w22 ⟨r, rfl, hr, hb22⟩
            have HE22 := Lib.hid (then_bel HE21.out hb22)
            clear hb22
            by_cases hE : E = 0
            · have HF := Lib.hid (once_facts Hf.out HR.out hE)
              have hRR : Rb = R ∧ Eb = 0 := by
                have h1 := HF.out.1
                rw [HRb.out] at h1
                cases h1
                exact ⟨rfl, rfl⟩
              obtain ⟨rfl, rfl⟩ := hRR
              obtain rfl : r = true := by first | exact hr.out rfl | exact hr.out trivial
              have q2 : (E == 0) = true := by rw [beq_iff_eq]; exact hE
              have q3 : ((Rb.length : Int) != (m : Int)) = false := by rw [bne_eq_false_iff_eq, HF.out.2, ← Hlen.out]
              generalize hRl : Rb.length = n20 at *
              clear hE hRl HF hr
              go_wp2_with fail
              go_roundw
              case rel => exact ⟨j + 1, by omega, by go_num, HE22⟩
              case measure => simp [intOf]; omega
            · have q2 : (E == 0) = false := by rw [beq_eq_false_iff_ne]; exact hE
              generalize hRl : R.length = n20 at *
              generalize hRl2 : Rb.length = n21 at *
              clear hE hRl hRl2 hr
              go_wp2_with fail
              go_roundw
              case rel => exact ⟨j + 1, by omega, by go_num, HE22⟩
              case measure => simp [intOf]; omega
          · as_aux_lemma =>
            obtain rfl : j = 3 := by omega
            rw [show (((3 : Nat) : Int)) = 3 from rfl]
            obtain ⟨R, E, hR⟩ : ∃ R E, applyL l ⟨5, t, [], [], nReverse⟩ = (R, E) := ⟨_, _, rfl⟩
            have HR := Lib.hid hR
            have HZR := Lib.hid (out_sz hR)
            obtain ⟨Rb, Eb, hRb⟩ : ∃ Rb Eb, applyL R ⟨5, t, [], [], nReverse⟩ = (Rb, Eb) := ⟨_, _, rfl⟩
            have HRb := Lib.hid hRb
            have HZb := Lib.hid (out_sz hRb)
            have hnr : nReverse.length ≤ 2147483647 := by decide
            clear hR hRb
            go_wp2_with fail
            refine (HApp.out _ _ _ l ⟨5, t, [], [], nReverse⟩ R E HR.out (by omega) HZ.out.2 ⟨z1, nil_le, nil_le, hnr⟩ _ HBr.out (HL.out.later HBr.out)).mono ?_
            rintro e w20 ⟨⟨v20, rfl, h20⟩, hb20⟩
            obtain ⟨p20, c20, rfl⟩ := h20.form
            have HP20 := Lib.hid (h20.rw prC_len)
            have HB20 := Lib.hid (then_bel HBr.out hb20)
            clear h20 hb20
            go_wp2_with fail
            refine (HApp.out _ _ _ R ⟨5, t, [], [], nReverse⟩ Rb Eb HRb.out (by have := HZR.out.2; omega) HZR.out.1 ⟨z1, nil_le, nil_le, hnr⟩ _ HB20.out HP20.out).mono ?_
            rintro e w21 ⟨⟨v21, rfl, h21⟩, hb21⟩
            obtain ⟨p21, c21, rfl⟩ := h21.form
            have HP21 := Lib.hid (h21.rw prC_len)
            have HB21 := Lib.hid (then_bel HB20.out hb21)
            have hzb := HZb.out.2
            clear h21 hb21
            go_wp2_with fail
            refine (same_some _ _ _ _ _ _ Rb l (by omega) (by omega) _ HP21.out (HL.out.later HB21.out)).mono ?_
            rintro e w22 ⟨r, rfl, hr, hb22⟩
            have HB22 := Lib.hid (then_bel HB21.out hb22)
            clear hb22
            by_cases hE : E = 0
            · have h1 := rev_facts HR.out hE
              rw [HRb.out] at h1
              cases h1
              obtain rfl : r = true := by first | exact hr.out rfl | exact hr.out trivial
              have q2 : (E != 0) = false := by rw [bne_eq_false_iff_eq]; exact hE
              clear hE hr
              go_wp2_with fail
              go_ret
              exact ⟨rfl, HB22.out⟩
            · have q2 : (E != 0) = true := by rw [bne_iff_ne]; exact hE
              clear hE hr
              go_wp2_with fail
              go_ret
              exact ⟨rfl, HB22.out⟩
/-- The same with strings. -/
theorem stepBack_b (p : Option Addr) (c : Nat) (l : List Pr) (hm : l.length ≤ 9223372036854775807) (t k u x : ByteArray) (w : World) (h : Prs w (.slice p l.length c) l) (hS : Slo w) :
    Calls Tryz.prog 6 #[.slice p l.length c, .string t, .string k, .string u, .string x] w fun e w' => e = .returned (.bool true) ∧ Below w.heap.size w w' := by
  have H := stepBack_any p c l hm t.data.toList k.data.toList u.data.toList x.data.toList w h hS
  rw [B_of, B_of, B_of, B_of] at H
  exact H
end Go.Proofs.YthjcifokmcbaoaaGreatDoor.st
