/- Laws and contracts on which the statement rests, part H: each text says what it proves, and its conditions. -/
import Derived.Test.YthjcifokmcbaoaaGreatDoorMgG
import Derived.Laws.StructEq
import Derived.Deep.RegionHeld3
import Derived.Laws.Rows
import Derived.Test.YthjcifokmcbaoaaGreatDoorMgF
/- Two pairs held against each other; law 16's same. Conditions: lists of at most 4294967295 pairs. -/
namespace Go.Proofs.YthjcifokmcbaoaaGreatDoor.st
open Go.ChangeShapes Go.WideShapes Go.ChangeAt Go.RowKit gl ls

theorem prFields : (Tryz.prog.fieldsOf 57).toList.map (fun f => (decide (f.name ≠ "_"), f.type, f.offset)) = [(true, 9, 0), (true, 9, 1), (true, 9, 2)] := by kernel_rfl
theorem three_fields {l : List Field} {t0 t1 t2 : TypeId} (h : l.map (fun f => (decide (f.name ≠ "_"), f.type, f.offset)) = [(true, t0, 0), (true, t1, 1), (true, t2, 2)]) :
    ∃ f0 f1 f2 : Field, l = [f0, f1, f2] ∧ f0.name ≠ "_" ∧ f0.type = t0 ∧ f0.offset = 0 ∧ f1.name ≠ "_" ∧ f1.type = t1 ∧ f1.offset = 1 ∧ f2.name ≠ "_" ∧ f2.type = t2 ∧ f2.offset = 2 := by
  obtain ⟨f0, r0, rfl, h0, h⟩ := List.map_eq_cons_iff.1 h
  obtain ⟨f1, r1, rfl, h1, h⟩ := List.map_eq_cons_iff.1 h
  obtain ⟨f2, r2, rfl, h2, h⟩ := List.map_eq_cons_iff.1 h
  obtain rfl := List.map_eq_nil_iff.1 h
  simp only [Prod.mk.injEq, decide_eq_true_eq] at h0 h1 h2
  exact ⟨f0, f1, f2, rfl, h0.1, h0.2.1, h0.2.2, h1.1, h1.2.1, h1.2.2, h2.1, h2.2.1, h2.2.2⟩
set_option maxRecDepth 100000 in
theorem neq_pr (a b c a2 b2 c2 : ByteArray) (w : World) :
    (binOp .neq 57 (.agg #[.string a, .string b, .string c]) (.agg #[.string a2, .string b2, .string c2])).run Tryz.prog w = .ok (.bool (!((a.toList == a2.toList) && ((b.toList == b2.toList) && (c.toList == c2.toList))))) w := by
  have hs : Tryz.prog.underlying 9 = some .string := Tryz.underlying9
  have hc : Tryz.prog.cellsOf 9 = 1 := by kernel_rfl
  obtain ⟨f0, f1, f2, hf, n0, t0, o0, n1, t1, o1, n2', t2, o2⟩ := three_fields prFields
  rw [run_neq_struct, run_equalIn_struct w 9999 57 _ _ Tryz.underlying57 (by kernel_rfl), hf]
  simp only [Op.eqFields, n0, n1, n2', t0, t1, t2, o0, o1, o2, ne_eq, not_false_eq_true, if_true]
  cases h1 : (a.toList == a2.toList) <;> cases h2 : (b.toList == b2.toList) <;> cases h3 : (c.toList == c2.toList) <;> simp [go_sem, part, hs, h1, h2, h3]
  all_goals trace_state
set_option maxRecDepth 100000 in
theorem eql_pr (a b c a2 b2 c2 : ByteArray) (w : World) :
    (binOp .eql 57 (.agg #[.string a, .string b, .string c]) (.agg #[.string a2, .string b2, .string c2])).run Tryz.prog w = .ok (.bool ((a.toList == a2.toList) && ((b.toList == b2.toList) && (c.toList == c2.toList)))) w := by
  have hs : Tryz.prog.underlying 9 = some .string := Tryz.underlying9
  have hc : Tryz.prog.cellsOf 9 = 1 := by kernel_rfl
  obtain ⟨f0, f1, f2, hf, n0, t0, o0, n1, t1, o1, n2', t2, o2⟩ := three_fields prFields
  rw [run_eql_struct, run_equalIn_struct w 9999 57 _ _ Tryz.underlying57 (by kernel_rfl), hf]
  simp only [Op.eqFields, n0, n1, n2', t0, t1, t2, o0, o1, o2, ne_eq, not_false_eq_true, if_true]
  cases h1 : (a.toList == a2.toList) <;> cases h2 : (b.toList == b2.toList) <;> cases h3 : (c.toList == c2.toList) <;> simp [go_sem, part, hs, h1, h2, h3]
  all_goals trace_state
theorem pr_same (x y : Pr) (h : x = y) : (!(((B x.table).toList == (B y.table).toList) && (((B x.key).toList == (B y.key).toList) && ((B x.value).toList == (B y.value).toList)))) = false := by
  subst h
  simp
set_option maxHeartbeats 2000000 in
set_option maxRecDepth 100000 in
theorem same_any (p p' : Option Addr) (m m' c c' : Nat) (l l' : List Pr) (hl : m ≤ 4294967295) (hl' : m' ≤ 4294967295) (w : World) (h : Prs w (.slice p m c) l) (h' : Prs w (.slice p' m' c') l') :
    Calls Tryz.prog 37 #[.slice p m c, .slice p' m' c'] w fun e w' => ∃ r : Bool, e = .returned (.bool r) ∧ (l = l' → r = true) ∧ ∃ q, w' = w.drewN q := by
  obtain ⟨hlen, hmc, hptr⟩ := h.ptr
  obtain ⟨hlen', hmc', hptr'⟩ := h'.ptr
  have HS := Lib.hid h
  have HS' := Lib.hid h'
  have Hlen := Lib.hid hlen
  have Hlen' := Lib.hid hlen'
  have Hptr := Lib.hid hptr
  have Hptr' := Lib.hid hptr'
  clear h h' hlen hlen' hptr hptr'
  by_cases hmm : m = m'
  · subst hmm
    go_enter Tryz.func37, Tryz.ntmps37
    go_wp2_with fail
    go_loopw [5] (fun i wr => ∃ j q : Nat, j ≤ m ∧ i = .int .i64 j ∧ wr = w.drewN q) (fun i _ => m - (intOf i).toNat)
    case atStart => exact ⟨0, 0, by omega, rfl, rfl⟩
    case round =>
      obtain ⟨j, q, hj, rfl, rfl⟩ := hrel
      by_cases hlt : j < m
      · obtain ⟨b, o, rfl, hbl⟩ := Hptr.out (by omega)
        obtain ⟨b', o', rfl, hbl'⟩ := Hptr'.out (by omega)
        obtain ⟨x, hx⟩ : ∃ x, l[j]? = some x := ⟨_, List.getElem?_eq_getElem (by rw [Hlen.out]; exact hlt)⟩
        obtain ⟨y, hy⟩ : ∃ y, l'[j]? = some y := ⟨_, List.getElem?_eq_getElem (by rw [Hlen'.out]; exact hlt)⟩
        obtain ⟨c0, c1, c2⟩ := prs_cells HS.out hx
        obtain ⟨d0, d1, d2⟩ := prs_cells HS'.out hy
        have hne := neq_pr (B x.table) (B x.key) (B x.value) (B y.table) (B y.key) (B y.value)
        have Hs : Hid (l = l' → (!(((B x.table).toList == (B y.table).toList) && (((B x.key).toList == (B y.key).toList) && ((B x.value).toList == (B y.value).toList)))) = false) := Lib.hid fun e => pr_same x y (by rw [e, hy] at hx; exact (Option.some.inj hx).symm)
        clear hx hy
        generalize (!(((B x.table).toList == (B y.table).toList) && (((B x.key).toList == (B y.key).toList) && ((B x.value).toList == (B y.value).toList)))) = t at *
        generalize B x.table = n1 at *
        generalize B y.table = n2 at *
        generalize B x.key = x1 at *
        generalize B y.key = x2 at *
        generalize B x.value = u1 at *
        generalize B y.value = u2 at *
        replace c0 : (w.drewN q).cell? ⟨b, o + j * 3, none⟩ = some (.string n1) := c0
        replace c1 : (w.drewN q).cell? ⟨b, o + j * 3 + 1, none⟩ = some (.string x1) := c1
        replace c2 : (w.drewN q).cell? ⟨b, o + j * 3 + 2, none⟩ = some (.string u1) := c2
        replace d0 : (w.drewN q).cell? ⟨b', o' + j * 3, none⟩ = some (.string n2) := d0
        replace d1 : (w.drewN q).cell? ⟨b', o' + j * 3 + 1, none⟩ = some (.string x2) := d1
        replace d2 : (w.drewN q).cell? ⟨b', o' + j * 3 + 2, none⟩ = some (.string u2) := d2
        generalize hq : w.drewN q = wr at *
        have Hq := Lib.hid hq
        clear hq
        cases t with
        | false =>
          go_wp2_with fail
          go_quiet (fail)
          go_wp2_with fail
          go_roundw
          case rel => exact ⟨j + 1, _, by omega, by go_num, by rw [← Hq.out, World.drewN_drewN]⟩
          case measure => simp [intOf]; omega
        | true =>
          go_wp2_with fail
          go_quiet (fail)
          go_wp2_with fail
          go_ret
          exact ⟨false, rfl, fun e => absurd (Hs.out e) (by simp), _, by rw [← Hq.out, World.drewN_drewN]⟩
      · obtain rfl : j = m := by omega
        go_wp2_with fail
        go_ret
        exact ⟨true, rfl, fun _ => rfl, q, rfl⟩
  · have hmm' : ((m : Int) != (m' : Int)) = true := by simp; omega
    have hne : l ≠ l' := by rintro rfl; exact hmm (by rw [← Hlen.out, ← Hlen'.out])
    have Hne := Lib.hid hne
    clear hmm hne
    go_enter Tryz.func37, Tryz.ntmps37
    go_wp2_with fail
    go_ret
    exact ⟨false, rfl, fun e => absurd e Hne.out, 0, rfl⟩
end Go.Proofs.YthjcifokmcbaoaaGreatDoor.st
/- law 16: awake returns true. Condition: the listed variables hold what the program's text lays. -/
namespace Go.Proofs.YthjcifokmcbaoaaGreatDoor.st
open Go.ChangeShapes Go.WideShapes Go.ChangeAt Go.RowKit gl ls

def awL : List Pr := [⟨[97], [107], [49]⟩, ⟨[98], [107], [50]⟩]
def awS1 : Sp := ⟨6, [98], [107], [106], []⟩
def awS2 : Sp := ⟨4, [97], [], [98], []⟩
def awS3 : Sp := ⟨5, [98], [], [], [100, 111, 117, 98, 108, 101]⟩
def awR1 : List Pr := [⟨[97], [107], [49]⟩, ⟨[98], [106], [50]⟩, ⟨[98], [107], [50]⟩]
def awR3 : List Pr := [⟨[97], [107], [49]⟩, ⟨[98], [107], [52]⟩]
theorem aw1 : applyL awL awS1 = (awR1, 0) := by kernel_rfl
theorem aw2 : applyL awL awS2 = ([], 161) := by kernel_rfl
theorem aw3 : applyL awL awS3 = (awR3, 0) := by kernel_rfl
theorem aw4 : callL [116, 114, 105, 109] [32, 97, 32, 98, 32] = ([97, 32, 98], 0) := by kernel_rfl
theorem aw5 : callL [85, 112, 112, 101, 114] [97] = ([], 160) := by kernel_rfl
theorem aw6 : rightL ⟨2, [97], [], [], []⟩ = true := by kernel_rfl
theorem aw7 : rightL ⟨2, [97], [], [], [120]⟩ = false := by kernel_rfl
theorem awSz : ∀ x ∈ awL, PrSz x := by
  intro x hx
  simp only [awL, List.mem_cons, List.not_mem_nil, or_false] at hx
  rcases hx with rfl | rfl <;> exact ⟨by decide, by decide, by decide⟩
theorem aw_prs {w wA : World} (hA : wA = w.alloc (.cells #[.string ⟨#[97]⟩, .string ⟨#[107]⟩, .string ⟨#[49]⟩, .string ⟨#[98]⟩, .string ⟨#[107]⟩, .string ⟨#[50]⟩] 57)) : Prs wA (.slice (some ⟨w.heap.size, 0, none⟩) 2 2) awL := by
  have h2 := heap_alloc_new w (.cells #[.string ⟨#[97]⟩, .string ⟨#[107]⟩, .string ⟨#[49]⟩, .string ⟨#[98]⟩, .string ⟨#[107]⟩, .string ⟨#[50]⟩] 57)
  rw [← hA] at h2
  exact rw.rw_lit prC_len (l := awL) h2 rfl
set_option maxHeartbeats 4000000 in
set_option maxRecDepth 100000 in
theorem awake_any (w : World) (hS : Slo w) : Calls Tryz.prog 26 #[] w fun e w' => e = .returned (.bool true) ∧ Below w.heap.size w w' := by
  obtain ⟨wA, hA⟩ : ∃ wA, wA = w.alloc (.cells #[.string ⟨#[97]⟩, .string ⟨#[107]⟩, .string ⟨#[49]⟩, .string ⟨#[98]⟩, .string ⟨#[107]⟩, .string ⟨#[50]⟩] 57) := ⟨_, rfl⟩
  have hP := aw_prs hA
  have hbA : Below w.heap.size w wA := by rw [hA]; exact (Below.refl _ _).alloc (Nat.le_refl _) _
  have HSl := Lib.hid fun (W : World) (hb : Below wA.heap.size wA W) => (hS.later hbA).later hb
  have H1 := Lib.hid fun (W : World) (hb : Below wA.heap.size wA W) => Apply_any _ 2 2 awL awS1 (by omega) awSz ⟨by decide, by decide, by decide, by decide⟩ W (HSl.out W hb) (hP.later hb)
  have H2 := Lib.hid fun (W : World) (hb : Below wA.heap.size wA W) => Apply_any _ 2 2 awL awS2 (by omega) awSz ⟨by decide, by decide, by decide, by decide⟩ W (HSl.out W hb) (hP.later hb)
  have H3 := Lib.hid fun (W : World) (hb : Below wA.heap.size wA W) => Apply_any _ 2 2 awL awS3 (by omega) awSz ⟨by decide, by decide, by decide, by decide⟩ W (HSl.out W hb) (hP.later hb)
  have H4 := Lib.hid fun (W : World) (hb : Below wA.heap.size wA W) => Call_any (B [116, 114, 105, 109]) (B [32, 97, 32, 98, 32]) W (HSl.out W hb)
  have H5 := Lib.hid fun (W : World) (hb : Below wA.heap.size wA W) => Call_any (B [85, 112, 112, 101, 114]) (B [97]) W (HSl.out W hb)
  have H6 := Lib.hid fun (W : World) (hb : Below wA.heap.size wA W) => right_sp ⟨2, [97], [], [], []⟩ ⟨by decide, by decide, by decide, by decide⟩ W (HSl.out W hb)
  have H7 := Lib.hid fun (W : World) (hb : Below wA.heap.size wA W) => right_sp ⟨2, [97], [], [], [120]⟩ ⟨by decide, by decide, by decide, by decide⟩ W (HSl.out W hb)
  rw [aw1] at H1
  rw [aw2] at H2
  rw [aw3] at H3
  simp only [aw4, callV] at H4
  simp only [aw5, callV] at H5
  rw [aw6] at H6
  rw [aw7] at H7
  have HA := Lib.hid hA
  have HbA := Lib.hid hbA
  have Q1 : Hid (∀ W : World, (binOp .eql 57 (.agg #[.string ⟨#[98]⟩, .string ⟨#[106]⟩, .string ⟨#[50]⟩]) (.agg #[.string ⟨#[98]⟩, .string ⟨#[106]⟩, .string ⟨#[50]⟩])).run Tryz.prog W = .ok (.bool true) W) := Lib.hid fun W => by rw [eql_pr]; simp
  clear hA hbA hP hS
  go_enter Tryz.func26, Tryz.ntmps26
  go_wp2_with fail
  rw [← HA.out]
  refine (H1.out _ (Below.refl _ _)).mono ?_
  rintro e w1 ⟨⟨v1, rfl, h1⟩, hb1⟩
  obtain ⟨p1, c1, hv1⟩ := h1.form
  change v1 = .slice p1 3 c1 at hv1
  subst hv1
  obtain ⟨b1, o1, rfl, _⟩ := (h1.rw prC_len).ptr.2.2 (by omega)
  have HP1 := Lib.hid (h1.rw prC_len)
  have HB1 := Lib.hid hb1
  clear h1 hb1
  go_wp2_with fail
  refine (H2.out _ HB1.out).mono ?_
  rintro e w2 ⟨⟨v2, rfl, h2⟩, hb2⟩
  obtain ⟨p2, c2, hv2⟩ := h2.form
  change v2 = .slice p2 0 c2 at hv2
  subst hv2
  have HB2 := Lib.hid (then_bel HB1.out hb2)
  have HP12 := Lib.hid (HP1.out.later hb2)
  clear h2 hb2 HP1
  go_wp2_with fail
  refine (H3.out _ HB2.out).mono ?_
  rintro e w3 ⟨⟨v3, rfl, h3⟩, hb3⟩
  obtain ⟨p3, c3, hv3⟩ := h3.form
  change v3 = .slice p3 2 c3 at hv3
  subst hv3
  obtain ⟨b3, o3, rfl, _⟩ := (h3.rw prC_len).ptr.2.2 (by omega)
  have HP3 := Lib.hid (h3.rw prC_len)
  have HB3 := Lib.hid (then_bel HB2.out hb3)
  have HP13 := Lib.hid (HP12.out.later hb3)
  clear h3 hb3 HP12
  go_wp2_with fail
  refine (H4.out _ HB3.out).mono ?_
  rintro e w4 ⟨rfl, hb4⟩
  have HB4 := Lib.hid (then_bel HB3.out hb4)
  have HD4 := Lib.hid hb4
  clear hb4
  go_wp2_with fail
  refine (H5.out _ HB4.out).mono ?_
  rintro e w5 ⟨rfl, hb5⟩
  have HB5 := Lib.hid (then_bel HB4.out hb5)
  have HD5 := Lib.hid (then_bel HD4.out hb5)
  clear hb5
  go_wp2_with fail
  refine (H6.out _ HB5.out).mono ?_
  rintro e w6 ⟨rfl, hb6⟩
  have HB6 := Lib.hid (then_bel HB5.out hb6)
  have HD6 := Lib.hid (then_bel HD5.out hb6)
  clear hb6
  go_wp2_with fail
  refine (H7.out _ HB6.out).mono ?_
  rintro e w7 ⟨rfl, hb7⟩
  have HB7 := Lib.hid (then_bel HB6.out hb7)
  have hd7 := then_bel HD6.out hb7
  obtain ⟨e0, e1, e2⟩ := prs_cells (HP13.out.later hd7) (j := 1) rfl
  obtain ⟨_, _, f2⟩ := prs_cells (HP3.out.later hd7) (j := 1) rfl
  simp only at e0 e1 e2 f2
  have q1 := Q1.out
  clear hb7 hd7
  go_wp2_with fail
  go_ret
  exact ⟨rfl, HbA.out.trans (HB7.out.mono HbA.out.size)⟩
end Go.Proofs.YthjcifokmcbaoaaGreatDoor.st
/- StepRights returns true. Conditions: at most 9223372036854775807 steps; the listed variables hold what the program's text lays. -/
namespace Go.Proofs.YthjcifokmcbaoaaGreatDoor.st
open Go.ChangeShapes Go.WideShapes Go.ChangeAt Go.RowKit gl ls

theorem f5_drew {w0 wp : World} {b o : Nat} {x0 x1 x2 x3 x4 : Value} (h : wp.cell? ⟨b, o, none⟩ = some x0 ∧ wp.cell? ⟨b, o + 1, none⟩ = some x1 ∧ wp.cell? ⟨b, o + 2, none⟩ = some x2 ∧ wp.cell? ⟨b, o + 3, none⟩ = some x3 ∧ wp.cell? ⟨b, o + 4, none⟩ = some x4 ∧ Hid (Below w0.heap.size w0 wp)) :
    wp.drew.cell? ⟨b, o, none⟩ = some x0 ∧ wp.drew.cell? ⟨b, o + 1, none⟩ = some x1 ∧ wp.drew.cell? ⟨b, o + 2, none⟩ = some x2 ∧ wp.drew.cell? ⟨b, o + 3, none⟩ = some x3 ∧ wp.drew.cell? ⟨b, o + 4, none⟩ = some x4 ∧ Hid (Below w0.heap.size w0 wp.drew) := ⟨h.1, h.2.1, h.2.2.1, h.2.2.2.1, h.2.2.2.2.1, Lib.hid h.2.2.2.2.2.out.drew⟩
theorem f5_of {w0 w' : World} {b o : Nat} {x0 x1 x2 x3 x4 : Value} (h0 : w0.cell? ⟨b, o, none⟩ = some x0) (h1 : w0.cell? ⟨b, o + 1, none⟩ = some x1) (h2 : w0.cell? ⟨b, o + 2, none⟩ = some x2) (h3 : w0.cell? ⟨b, o + 3, none⟩ = some x3) (h4 : w0.cell? ⟨b, o + 4, none⟩ = some x4) (hb : Below w0.heap.size w0 w') :
    w'.cell? ⟨b, o, none⟩ = some x0 ∧ w'.cell? ⟨b, o + 1, none⟩ = some x1 ∧ w'.cell? ⟨b, o + 2, none⟩ = some x2 ∧ w'.cell? ⟨b, o + 3, none⟩ = some x3 ∧ w'.cell? ⟨b, o + 4, none⟩ = some x4 ∧ Hid (Below w0.heap.size w0 w') :=
  ⟨cell_then h0 hb, cell_then h1 hb, cell_then h2 hb, cell_then h3 hb, cell_then h4 hb, Lib.hid hb⟩
theorem f5_bel {w0 wp : World} {b o : Nat} {x0 x1 x2 x3 x4 : Value} (h : wp.cell? ⟨b, o, none⟩ = some x0 ∧ wp.cell? ⟨b, o + 1, none⟩ = some x1 ∧ wp.cell? ⟨b, o + 2, none⟩ = some x2 ∧ wp.cell? ⟨b, o + 3, none⟩ = some x3 ∧ wp.cell? ⟨b, o + 4, none⟩ = some x4 ∧ Hid (Below w0.heap.size w0 wp)) : Hid (Below w0.heap.size w0 wp) := h.2.2.2.2.2
set_option maxHeartbeats 4000000 in
set_option maxRecDepth 100000 in
theorem stepRights_any (p : Option Addr) (c : Nat) (l : List Sp) (hm : l.length ≤ 9223372036854775807) (w : World) (h : Sps w (.slice p l.length c) l) (hS : Slo w) :
    Calls Tryz.prog 4 #[.slice p l.length c] w fun e w' => e = .returned (.bool true) ∧ Below w.heap.size w w' := by
  obtain ⟨_, hmc, hptr⟩ := h.ptr
  have HW := Lib.hid (stepsWeigh_any p l.length c l hm w h)
  have HAw := Lib.hid fun (W : World) (hb : Below w.heap.size w W) => awake_any W (hS.later hb)
  have HR := Lib.hid fun (s : Sp) (hs : SpSz s) (W : World) (hb : Below w.heap.size w W) => right_sp s hs W (hS.later hb)
  have HR2 := Lib.hid fun (s : Sp) (hs : SpSz s) (W : World) => right_ref s hs W
  unfold spA at HR HR2
  have HL := Lib.hid h
  have HP := Lib.hid hptr
  obtain ⟨m, hlen⟩ : ∃ m, m = l.length := ⟨_, rfl⟩
  rw [← hlen] at hm hmc HW HL HP ⊢
  have Hlen := Lib.hid hlen
  clear h hptr hlen hS
  go_enter Tryz.func4, Tryz.ntmps4
  go_wp2_with fail
  refine HW.out.mono ?_
  rintro e w1 ⟨⟨N, rfl, hN⟩, hb1⟩
  have HB1 := Lib.hid hb1
  have HN := Lib.hid hN
  clear hb1 hN
  by_cases hbig : 2147483647 < N
  · have q1 : decide (2147483647 < N) = true := by rw [decide_eq_true_iff]; exact hbig
    go_wp2_with fail
    go_ret
    exact ⟨rfl, HB1.out⟩
  · have q1 : decide (2147483647 < N) = false := by rw [decide_eq_false_iff_not]; exact hbig
    have HZ := Lib.hid (HN.out.2.2 (by omega)).2
    go_wp2_with fail
    refine (HAw.out _ HB1.out).mono ?_
    rintro e w2 ⟨rfl, hb2⟩
    have HB2 := Lib.hid (then_bel HB1.out hb2)
    clear hb2
    go_wp2_with fail
    go_loopw [4] (fun i wr => ∃ k : Nat, k ≤ m ∧ i = .int .i64 k ∧ Hid (Below w.heap.size w wr)) (fun i _ => m - (intOf i).toNat)
    case atStart => exact ⟨0, by omega, rfl, HB2⟩
    case round =>
      obtain ⟨k, hk, rfl, Hb⟩ := hrel
      by_cases hlt : k < m
      · obtain ⟨b, o, rfl, hbl⟩ := HP.out (by omega)
        obtain ⟨x, hx⟩ : ∃ x, l[k]? = some x := ⟨_, List.getElem?_eq_getElem (by rw [← Hlen.out]; exact hlt)⟩
        obtain ⟨e0, e1, e2, e3, e4⟩ := sps_cells (HL.out.later Hb.out) hx
        have hki : (k : Int) < (m : Int) := by omega
        have hk5 : (0 : Int) ≤ (k : Int) := by omega
        have HQ := Lib.hid (HR.out x (HZ.out x (List.mem_of_getElem? hx)))
        have HQ2 := Lib.hid (HR2.out x (HZ.out x (List.mem_of_getElem? hx)))
        clear hx
        generalize rightL x = r at *
        generalize B x.table = y1 at *
        generalize B x.key = y2 at *
        generalize B x.to = y3 at *
        generalize B x.text = y4 at *
        have HQ' := Lib.hid fun (W : World) (hb : Hid (Below wr.heap.size wr W)) => HQ.out W (Hb.out.trans (hb.out.mono Hb.out.size))
        have hSt := f5_of e0 e1 e2 e3 e4 (Below.refl _ wr)
        have qr : (r != r) = false := by simp
        go_wp2_with fail
        go_region_held3 (fun w' => w'.cell? ⟨b, o + k * 5, none⟩ = some (.int .i64 x.kind) ∧ w'.cell? ⟨b, o + k * 5 + 1, none⟩ = some (.string y1) ∧ w'.cell? ⟨b, o + k * 5 + 2, none⟩ = some (.string y2) ∧ w'.cell? ⟨b, o + k * 5 + 3, none⟩ = some (.string y3) ∧ w'.cell? ⟨b, o + k * 5 + 4, none⟩ = some (.string y4) ∧ Hid (Below wr.heap.size wr w'))
          (first | assumption | (with_reducible exact f5_drew (by assumption)))
          (first
            | ((go_at_call 27; (with_reducible refine Calls.mono (HQ'.out _ (f5_bel (by assumption))) ?_); rintro e w' ⟨rfl, hb⟩; have hS' := f5_of e0 e1 e2 e3 e4 (then_bel (f5_bel (by assumption)).out hb); clear hb))
            | ((go_at_call 28; (with_reducible refine Calls.mono (HQ2.out _) ?_); rintro e w' ⟨rfl, hb⟩; have hS' := f5_of e0 e1 e2 e3 e4 (then_bel (f5_bel (by assumption)).out hb); clear hb)))
        all_goals
          rename_i hH
          have hbH := Lib.hid hH.2.2.2.2.2.out
          clear hH hSt e0 e1 e2 e3 e4
          go_wp2_with fail
          go_roundw
          case rel => exact ⟨k + 1, by omega, by go_num, Lib.hid (Hb.out.trans (hbH.out.mono Hb.out.size))⟩
          case measure => simp [intOf]; omega
      · obtain rfl : k = m := by omega
        go_wp2_with fail
        go_ret
        exact ⟨rfl, Hb.out⟩
end Go.Proofs.YthjcifokmcbaoaaGreatDoor.st
/- Lists of texts in memory; law 16's texts; step.Functions. Conditions: lists of at most 4294967295 texts. -/
namespace Go.Proofs.YthjcifokmcbaoaaGreatDoor.st
open Go.ChangeShapes Go.WideShapes Go.ChangeAt Go.RowKit gl ls

def txC (x : List UInt8) : List Value := [.string (B x)]
theorem txC_len (x : List UInt8) : (txC x).length = 1 := rfl
theorem txC_one : ∀ (x : List UInt8), ∀ v ∈ txC x, v.oneCell' = true := by
  intro x v hv
  simp only [txC, List.mem_cons, List.not_mem_nil, or_false] at hv
  subst hv
  rfl
abbrev Txt (w : World) (v : Value) (l : List (List UInt8)) : Prop := rw.Rw txC 1 w v l
theorem txt_cell {w : World} {b o n c : Nat} {l : List (List UInt8)} (h : Txt w (.slice (some ⟨b, o, none⟩) n c) l) {j : Nat} {x : List UInt8} (hx : l[j]? = some x) : w.cell? ⟨b, o + j, none⟩ = some (.string (B x)) := by
  have := rw.Rw.cell h hx (i := 0) rfl
  rwa [Nat.mul_one, Nat.add_zero] at this
set_option maxHeartbeats 2000000 in
set_option maxRecDepth 100000 in
theorem texts_any (p p' : Option Addr) (m m' c c' : Nat) (l l' : List (List UInt8)) (hl : m ≤ 4294967295) (hl' : m' ≤ 4294967295) (w : World) (h : Txt w (.slice p m c) l) (h' : Txt w (.slice p' m' c') l') :
    Calls Tryz.prog 40 #[.slice p m c, .slice p' m' c'] w fun e w' => ∃ r : Bool, e = .returned (.bool r) ∧ (l = l' → r = true) ∧ ∃ q, w' = w.drewN q := by
  obtain ⟨hlen, hmc, hptr⟩ := h.ptr
  obtain ⟨hlen', hmc', hptr'⟩ := h'.ptr
  have HS := Lib.hid h
  have HS' := Lib.hid h'
  have Hlen := Lib.hid hlen
  have Hlen' := Lib.hid hlen'
  have Hptr := Lib.hid hptr
  have Hptr' := Lib.hid hptr'
  clear h h' hlen hlen' hptr hptr'
  by_cases hmm : m = m'
  · subst hmm
    go_enter Tryz.func40, Tryz.ntmps40
    go_wp2_with fail
    go_loopw [5] (fun i wr => ∃ j q : Nat, j ≤ m ∧ i = .int .i64 j ∧ wr = w.drewN q) (fun i _ => m - (intOf i).toNat)
    case atStart => exact ⟨0, 0, by omega, rfl, rfl⟩
    case round =>
      obtain ⟨j, q, hj, rfl, rfl⟩ := hrel
      by_cases hlt : j < m
      · obtain ⟨b, o, rfl, hbl⟩ := Hptr.out (by omega)
        obtain ⟨b', o', rfl, hbl'⟩ := Hptr'.out (by omega)
        obtain ⟨x, hx⟩ : ∃ x, l[j]? = some x := ⟨_, List.getElem?_eq_getElem (by rw [Hlen.out]; exact hlt)⟩
        obtain ⟨y, hy⟩ : ∃ y, l'[j]? = some y := ⟨_, List.getElem?_eq_getElem (by rw [Hlen'.out]; exact hlt)⟩
        have c0 := txt_cell HS.out hx
        have d0 := txt_cell HS'.out hy
        have Hs : Hid (l = l' → (!((B x).toList == (B y).toList)) = false) := Lib.hid fun e => by rw [e, hy] at hx; obtain rfl := Option.some.inj hx; simp
        clear hx hy
        have hk1 : (j : Int) < (m : Int) := by omega
        have hk5 : (0 : Int) ≤ (j : Int) := by omega
        cases ht : ((B x).toList == (B y).toList) with
        | true =>
          generalize B x = n1 at *
          generalize B y = n2 at *
          replace c0 : (w.drewN q).cell? ⟨b, o + j, none⟩ = some (.string n1) := c0
          replace d0 : (w.drewN q).cell? ⟨b', o' + j, none⟩ = some (.string n2) := d0
          generalize hq : w.drewN q = wr at *
          have Hq := Lib.hid hq
          clear hq
          go_wp2_with fail
          go_quiet (fail)
          go_wp2_with fail
          go_roundw
          case rel => exact ⟨j + 1, _, by omega, by go_num, by rw [← Hq.out, World.drewN_drewN]⟩
          case measure => simp [intOf]; omega
        | false =>
          rw [ht] at Hs
          generalize B x = n1 at *
          generalize B y = n2 at *
          replace c0 : (w.drewN q).cell? ⟨b, o + j, none⟩ = some (.string n1) := c0
          replace d0 : (w.drewN q).cell? ⟨b', o' + j, none⟩ = some (.string n2) := d0
          generalize hq : w.drewN q = wr at *
          have Hq := Lib.hid hq
          clear hq
          go_wp2_with fail
          go_quiet (fail)
          go_wp2_with fail
          go_ret
          exact ⟨false, rfl, fun e => absurd (Hs.out e) (by simp), _, by rw [← Hq.out, World.drewN_drewN]⟩
      · obtain rfl : j = m := by omega
        go_wp2_with fail
        go_ret
        exact ⟨true, rfl, fun _ => rfl, q, rfl⟩
  · have hmm' : ((m : Int) != (m' : Int)) = true := by simp; omega
    have hne : l ≠ l' := by rintro rfl; exact hmm (by rw [← Hlen.out, ← Hlen'.out])
    have Hne := Lib.hid hne
    clear hmm hne
    go_enter Tryz.func40, Tryz.ntmps40
    go_wp2_with fail
    go_ret
    exact ⟨false, rfl, fun e => absurd e Hne.out, 0, rfl⟩
def nmL : List (List UInt8) := [nDouble, nLower, nReverse, nTrim, nUpper]
theorem nm_cells : rw.flat txC nmL = namesL := rfl
theorem functions_any (w : World) (hS : Slo w) : Calls Tryz.prog 39 #[] w fun e w' => ∃ v, e = .returned v ∧ w'.ownsRow w.heap.size 9 1 v 5 namesL ∧ Below w.heap.size w w' := by
  have hc := hS.names
  have HC := Lib.hid (Tryz.slices_Clone_string 0 0 5 5 (nmL.map B) w (by decide) (by decide) (fun j hj => by
    have hj5 : j < 5 := hj
    match j, hj5 with
    | 0, _ => exact hc 0 _ rfl
    | 1, _ => exact hc 1 _ rfl
    | 2, _ => exact hc 2 _ rfl
    | 3, _ => exact hc 3 _ rfl
    | 4, _ => exact hc 4 _ rfl))
  clear hc hS
  go_enter Tryz.func39, Tryz.ntmps39
  go_wp2_with fail
  refine HC.out.mono ?_
  rintro e w1 ⟨v, rfl, ho, _, hb⟩
  have HO := Lib.hid ho
  have Hb := Lib.hid hb
  clear ho hb
  go_wp2_with fail
  go_ret
  exact ⟨_, rfl, HO.out, Hb.out⟩
end Go.Proofs.YthjcifokmcbaoaaGreatDoor.st
/- StepStands returns true. Condition: the listed variables hold what the program's text lays. -/
namespace Go.Proofs.YthjcifokmcbaoaaGreatDoor.st
open Go.ChangeShapes Go.WideShapes Go.ChangeAt Go.RowKit gl ls

/-- A store into a row that the call owns. -/
theorem own_store {M n s : Nat} {e : TypeId} {w : World} {g c : Nat} {xs : List Value} (h : w.ownsRow M e s (.slice (some ⟨g, 0, none⟩) n c) n xs) (i : Nat) (u : Value) (hi : i < n * s) :
    (∃ xs', (w.setCell ⟨g, i, none⟩ u).ownsRow M e s (.slice (some ⟨g, 0, none⟩) n c) n xs') ∧ (w.cell? ⟨g, i, none⟩).isSome = true ∧ w.frozen? ⟨g, i, none⟩ = false := by
  obtain ⟨hl, h2⟩ := h
  rcases h2 with ⟨h0, _⟩ | ⟨g', cap, cur, hv, hb, hg, hn, hm, hcs, ht⟩
  · cases h0
  · cases hv
    have hmul : n * s ≤ c * s := Nat.mul_le_mul_right s hn
    refine ⟨⟨_, ?_, .inr ⟨g, c, _, rfl, hb, heap_set hg u, hn, hm, by simpa using hcs, rfl⟩⟩, ?_, free_in hg⟩
    · rw [List.length_take, Array.length_toList, Array.size_setIfInBounds, hcs]
      omega
    · rw [cell_in hg, Array.getElem?_eq_getElem (by omega)]
      rfl
theorem own_g {M n s : Nat} {e : TypeId} {w : World} {v : Value} {xs : List Value} (h : w.ownsRow M e s v n xs) (hn : 0 < n) : ∃ g c, v = .slice (some ⟨g, 0, none⟩) n c ∧ M ≤ g ∧ g < w.heap.size := h.form hn
theorem txt_own {M n : Nat} {w : World} {v : Value} {l : List (List UInt8)} (h : w.ownsRow M 9 1 v n (rw.flat txC l)) : Txt w v l := rw.own_rw txC_len (by decide) h
theorem txt_block {w : World} {blk : Nat} {l : List (List UInt8)} {cs : Array Value} (h : w.heap[blk]? = some (.cells cs 9 (0, 0))) (hc : cs.toList = rw.flat txC l) : Txt w (.slice (some ⟨blk, 0, none⟩) l.length l.length) l := rw.rw_lit txC_len h hc
theorem own_grown {M n s : Nat} {e : TypeId} {w w' : World} {v v' : Value} {xs : List Value} (h : w.ownsRow M e s v n xs) (hg : w.grownBy w' v'.ownBlock) (hne : ∀ g g', v.ownBlock = some g → v'.ownBlock = some g' → g' ≠ g) : w'.ownsRow M e s v n xs :=
  (Upd.of_grown (S := v'.ownBlock.toList) hg (fun k hk => by rw [hk]; simp)).row h fun g hv hm => by
    cases hv' : v'.ownBlock with
    | none => rw [hv'] at hm; cases hm
    | some g' => rw [hv'] at hm; simp at hm; exact hne g g' hv hv' hm.symm
theorem t2_drew {w0 wp : World} {b d o q : Nat} {x y : Value} (h : wp.cell? ⟨b, o, none⟩ = some x ∧ wp.cell? ⟨d, q, none⟩ = some y ∧ Hid (Below w0.heap.size w0 wp)) : wp.drew.cell? ⟨b, o, none⟩ = some x ∧ wp.drew.cell? ⟨d, q, none⟩ = some y ∧ Hid (Below w0.heap.size w0 wp.drew) := ⟨h.1, h.2.1, Lib.hid h.2.2.out.drew⟩
theorem t2_of {w0 wp : World} {b d o q : Nat} {x y : Value} (h0 : w0.cell? ⟨b, o, none⟩ = some x) (h1 : w0.cell? ⟨d, q, none⟩ = some y) (hb : Below w0.heap.size w0 wp) : wp.cell? ⟨b, o, none⟩ = some x ∧ wp.cell? ⟨d, q, none⟩ = some y ∧ Hid (Below w0.heap.size w0 wp) := ⟨cell_then h0 hb, cell_then h1 hb, Lib.hid hb⟩
theorem t2_bel {w0 wp : World} {b d o q : Nat} {x y : Value} (h : wp.cell? ⟨b, o, none⟩ = some x ∧ wp.cell? ⟨d, q, none⟩ = some y ∧ Hid (Below w0.heap.size w0 wp)) : Hid (Below w0.heap.size w0 wp) := h.2.2
def vals12 : List (List UInt8) := [[], [48], [55], [48, 55], [45, 49], [50, 49, 52, 55, 52, 56, 51, 54, 52, 56], [50, 49, 52, 55, 52, 56, 51, 54, 52, 57], [97, 66, 99], [32, 97, 9, 98, 32], [9], [122, 123, 64, 91], [0, 255]]
set_option maxHeartbeats 8000000 in
set_option maxRecDepth 100000 in
theorem stepStands_any (w : World) (hS : Slo w) : Calls Tryz.prog 8 #[] w fun e w' => e = .returned (.bool true) ∧ Below w.heap.size w w' := by
  have HAw := Lib.hid (awake_any w hS)
  have HF := Lib.hid fun (W : World) (hb : Below w.heap.size w W) => functions_any W (hS.later hb)
  have HCa := Lib.hid fun (s x : List UInt8) (W : World) (hb : Below w.heap.size w W) => Call_any (B s) (B x) W (hS.later hb)
  have HCb := Lib.hid fun (s x : List UInt8) (W : World) => refCall_any (B s) (B x) W
  simp only [callV] at HCa HCb
  obtain ⟨i0, hi, hz0, hz1, hz2⟩ := info_parts (show (Tryz.prog.info? 9).map (fun i => (i.zero, i.size, i.bytes)) = some (some (.string .empty), 1, 16) by kernel_rfl)
  clear hS
  go_enter Tryz.func8, Tryz.ntmps8
  go_wp2_with fail
  refine HAw.out.mono ?_
  rintro e w1 ⟨rfl, hb1⟩
  have HB1 := Lib.hid hb1
  clear hb1
  go_wp2_with fail
  refine (HF.out _ HB1.out).mono ?_
  rintro e w2 ⟨va, rfl, hoa, hb2⟩
  obtain ⟨ga, ca, rfl, hga, hga2⟩ := own_g hoa (by decide)
  have HB2 := Lib.hid (then_bel HB1.out hb2)
  have HOa := Lib.hid hoa
  clear hb2 hoa
  go_wp2_with fail
  refine (HF.out _ HB2.out).mono ?_
  rintro e w3 ⟨vb, rfl, hob, hb3⟩
  obtain ⟨gb, cb, rfl, hgb, hgb2⟩ := own_g hob (by decide)
  have HB3 := Lib.hid (then_bel HB2.out hb3)
  have HOa3 := Lib.hid (ls.own_kept HOa.out hb3)
  have HOb := Lib.hid hob
  have hz3 := hb3.size
  clear hb3 hob HOa
  go_wp2_with fail
  refine (refFunctions_any _).mono ?_
  rintro e w4 ⟨rfl, hw4⟩
  have hb4 : Below w3.heap.size w3 w4 := by rw [hw4]; exact (Below.refl _ _).alloc (Nat.le_refl _) _
  have hT4 : Txt w4 (.slice (some ⟨w3.heap.size, 0, none⟩) 5 5) nmL := txt_block (l := nmL) (by rw [hw4]; exact heap_alloc_new w3 _) (by rfl)
  have HB4 := Lib.hid (then_bel HB3.out hb4)
  have HOa4 := Lib.hid (ls.own_kept HOa3.out hb4)
  have HOb4 := Lib.hid (ls.own_kept HOb.out hb4)
  have HX4 := Lib.hid (texts_any (some ⟨ga, 0, none⟩) (some ⟨w3.heap.size, 0, none⟩) 5 5 ca 5 nmL nmL (by decide) (by decide) w4 (txt_own (l := nmL) HOa4.out) hT4)
  have hz4 := hb4.size
  clear hb4 hT4 hw4 HOa3 HOb
  go_wp2_with fail
  refine HX4.out.mono ?_
  rintro e w5 ⟨r, rfl, hr, q, hw5⟩
  obtain rfl : r = true := by first | exact hr | exact hr trivial
  have hb5 : Below w4.heap.size w4 w5 := by rw [hw5]; exact drewN_bel w4 q
  have HB5 := Lib.hid (then_bel HB4.out hb5)
  have HOa5 := Lib.hid (ls.own_kept HOa4.out hb5)
  have HOb5 := Lib.hid (ls.own_kept HOb4.out hb5)
  have hz5 := hb5.size
  clear hb5 hw5 hr HOa4 HOb4 HX4
  have hne : ga ≠ gb := by omega
  have hgw : w.heap.size ≤ ga := by have := HB1.out.size; omega
  go_wp2_with fail
  go_loopw [5] (fun i wr => ∃ (k : Nat) (xs : List Value), k ≤ 5 ∧ i = .int .i64 k ∧ Hid (wr.ownsRow w1.heap.size 9 1 (.slice (some ⟨ga, 0, none⟩) 5 ca) 5 xs) ∧ Hid (wr.ownsRow w2.heap.size 9 1 (.slice (some ⟨gb, 0, none⟩) 5 cb) 5 namesL) ∧ Hid (Below w.heap.size w wr)) (fun i _ => 5 - (intOf i).toNat)
  case atStart => exact ⟨0, _, by omega, rfl, HOa5, HOb5, HB5⟩
  case round =>
    obtain ⟨k, xs, hk, rfl, HOk, HOb', Hb⟩ := hrel
    by_cases hlt : k < 5
    · have hki : (k : Int) < 5 := by omega
      have hk5 : (0 : Int) ≤ (k : Int) := by omega
      have Hst := Lib.hid (own_store HOk.out k (.string ⟨#[111, 118, 101, 114]⟩) (by omega))
      obtain ⟨v0, hc0⟩ := Option.isSome_iff_exists.1 Hst.out.2.1
      have hfz := Hst.out.2.2
      go_wp2_with fail
      go_roundw
      case rel =>
        obtain ⟨xs', h1⟩ := Hst.out.1
        exact ⟨k + 1, xs', by omega, by go_num, Lib.hid h1, Lib.hid (own_far HOb'.out (a := ⟨ga, k, none⟩) (fun g hg => by cases hg; exact fun e => hne e.symm) _), Lib.hid (Hb.out.setCell (p := ⟨ga, k, none⟩) hgw _)⟩
      case measure => simp [intOf]; omega
    · obtain rfl : k = 5 := by omega
      rw [show (((5 : Nat) : Int)) = 5 from rfl]
      go_wp2_with fail
      obtain ⟨wo, hwo⟩ : ∃ wo, wo = wr := ⟨_, rfl⟩
      rw [← hwo] at HOk HOb' Hb ⊢
      clear hwo
      go_loopw [2, 6] (fun v i wr => ∃ (k n : Nat) (xs : List Value), k ≤ 9 ∧ i = .int .i64 k ∧ n = 5 + k ∧ Hid (wr.ownsRow w1.heap.size 9 1 v n xs) ∧ Hid (∀ g, v.ownBlock = some g → g ≠ gb) ∧ Hid (wr.ownsRow w2.heap.size 9 1 (.slice (some ⟨gb, 0, none⟩) 5 cb) 5 namesL) ∧ Hid (Below w.heap.size w wr)) (fun _ i _ => 9 - (intOf i).toNat)
      case atStart => exact ⟨0, 5, xs, by omega, rfl, rfl, HOk, Lib.hid (fun g hg => by cases hg; exact hne), HOb', Hb⟩
      case round =>
        obtain ⟨k, n, xs2, hk, rfl, hn, HOv, Hnb, HOb2, Hb2⟩ := hrel
        by_cases hlt : k < 9
        · have hki : (k : Int) < 9 := by omega
          have hzb : gb < wr.heap.size := by
            obtain ⟨_, h⟩ := HOb2.out
            rcases h with ⟨h, _⟩ | ⟨g, _, _, h, _, h3, _⟩
            · cases h
            · cases h; exact lt_of_block h3
          have hzw : w1.heap.size ≤ wr.heap.size := Nat.le_trans (by omega) (Nat.le_of_lt hzb)
          focus
            go_wp2_with (at_builtin; go_must (refine wpList_append_k rfl _ _ 24 rfl 9 i0 _ 1 16 Tryz.underlying24 hi hz0 hz1 hz2 rfl (by omega) _ (by rfl) (by rfl) w1.heap.size _ _ _ (by rfl) HOv.out (by simp [Value.oneCell']) (by omega) (by omega) (by omega) ?_))
          intro g' cap' w7 hown7 hgrow hat hz7 hlt7
          have Hown7 := Lib.hid hown7
          have HOb7 := Lib.hid (own_grown HOb2.out hgrow (fun g g' hg hg' => by cases hg; exact Hnb.out g' hg'))
          have HB7 := Lib.hid (grown_bel Hb2.out HOv.out hgrow (HB1.out.size) (Nat.le_trans HB1.out.size hzw))
          have Hnb7 : Hid (∀ g, (Value.slice (some ⟨g', 0, none⟩) (n + 1) cap').ownBlock = some g → g ≠ gb) := Lib.hid (fun g hg => by
            cases hg
            show g' ≠ gb
            rcases hat with h | h
            · exact Hnb.out _ h
            · intro e; rw [e] at h; omega)
          clear hown7 hgrow hat hlt7
          go_wp2_with fail
          go_roundw
          case rel => exact ⟨k + 1, 5 + k + 1, _, by omega, by go_num, by omega, Hown7, Hnb7, HOb7, HB7⟩
          case measure => simp [intOf]; omega
        · obtain rfl : k = 9 := by omega
          have HB8 := Hb2
          go_wp2_with fail
          refine (HF.out _ HB8.out).mono ?_
          rintro e w8 ⟨vc, rfl, hoc, hb8⟩
          obtain ⟨gc, cc, rfl, hgc, hgc2⟩ := own_g hoc (by decide)
          have HB9 := Lib.hid (then_bel HB8.out hb8)
          have HOb9 := Lib.hid (ls.own_kept HOb2.out hb8)
          have HOc := Lib.hid hoc
          clear hb8 hoc
          go_wp2_with fail
          refine (refFunctions_any _).mono ?_
          rintro e w9 ⟨rfl, hw9⟩
          have hb9 : Below w8.heap.size w8 w9 := by rw [hw9]; exact (Below.refl _ _).alloc (Nat.le_refl _) _
          have hT9 : Txt w9 (.slice (some ⟨w8.heap.size, 0, none⟩) 5 5) nmL := txt_block (l := nmL) (by rw [hw9]; exact heap_alloc_new w8 _) (by rfl)
          have HBx := Lib.hid (then_bel HB9.out hb9)
          have HOb10 := Lib.hid (ls.own_kept HOb9.out hb9)
          have HOc10 := Lib.hid (ls.own_kept HOc.out hb9)
          have HX9 := Lib.hid (texts_any (some ⟨gb, 0, none⟩) (some ⟨w8.heap.size, 0, none⟩) 5 5 cb 5 nmL nmL (by decide) (by decide) w9 (txt_own (l := nmL) HOb10.out) hT9)
          clear hb9 hT9 hw9 HOb9 HOc
          go_wp2_with fail
          refine HX9.out.mono ?_
          rintro e w10 ⟨r, rfl, hr, q10, hw10⟩
          obtain rfl : r = true := by first | exact hr | exact hr trivial
          have hb10 : Below w9.heap.size w9 w10 := by rw [hw10]; exact drewN_bel w9 q10
          have HBy := Lib.hid (then_bel HBx.out hb10)
          have HOc11 := Lib.hid (ls.own_kept HOc10.out hb10)
          clear hb10 hw10 hr HOb10 HOc10 HX9
          go_wp2_with fail
          refine (refFunctions_any _).mono ?_
          rintro e w11 ⟨rfl, hw11⟩
          have hb11 : Below w10.heap.size w10 w11 := by rw [hw11]; exact (Below.refl _ _).alloc (Nat.le_refl _) _
          have hT11 : Txt w11 (.slice (some ⟨w10.heap.size, 0, none⟩) 5 5) nmL := txt_block (l := nmL) (by rw [hw11]; exact heap_alloc_new w10 _) (by rfl)
          have HBz := Lib.hid (then_bel HBy.out hb11)
          have HOc12 := Lib.hid (ls.own_kept HOc11.out hb11)
          have HX11 := Lib.hid (texts_any (some ⟨gc, 0, none⟩) (some ⟨w10.heap.size, 0, none⟩) 5 5 cc 5 nmL nmL (by decide) (by decide) w11 (txt_own (l := nmL) HOc12.out) hT11)
          clear hb11 hT11 hw11 HOc11
          go_wp2_with fail
          refine HX11.out.mono ?_
          rintro e w12 ⟨r, rfl, hr, q12, hw12⟩
          obtain rfl : r = true := by first | exact hr | exact hr trivial
          have hb12 : Below w11.heap.size w11 w12 := by rw [hw12]; exact drewN_bel w11 q12
          have HB12 := Lib.hid (then_bel HBz.out hb12)
          have HOc13 := Lib.hid (ls.own_kept HOc12.out hb12)
          have HTc := Lib.hid (txt_own (l := nmL) HOc13.out)
          obtain ⟨wV, hV⟩ : ∃ wV, wV = w12.alloc (.cells (rw.flat txC vals12).toArray 9) := ⟨_, rfl⟩
          have hbV : Below w12.heap.size w12 wV := by rw [hV]; exact (Below.refl _ _).alloc (Nat.le_refl _) _
          have hTV : Txt wV (.slice (some ⟨w12.heap.size, 0, none⟩) 12 12) vals12 := txt_block (l := vals12) (by rw [hV]; exact heap_alloc_new w12 _) (by simp)
          have HTV := Lib.hid hTV
          have HTcV := Lib.hid (HTc.out.later hbV)
          have HBV := Lib.hid (then_bel HB12.out hbV)
          have HV : Hid (wV = w12.alloc (.cells #[.string ⟨#[]⟩, .string ⟨#[48]⟩, .string ⟨#[55]⟩, .string ⟨#[48, 55]⟩, .string ⟨#[45, 49]⟩, .string ⟨#[50, 49, 52, 55, 52, 56, 51, 54, 52, 56]⟩, .string ⟨#[50, 49, 52, 55, 52, 56, 51, 54, 52, 57]⟩, .string ⟨#[97, 66, 99]⟩, .string ⟨#[32, 97, 9, 98, 32]⟩, .string ⟨#[9]⟩, .string ⟨#[122, 123, 64, 91]⟩, .string ⟨#[0, 255]⟩] 9)) := Lib.hid hV
          clear hb12 hw12 hr HOc12 HX11 hbV hV HTc hTV
          go_wp2_with fail
          rw [← HV.out]
          go_loopw [11] (fun i wr => ∃ k : Nat, k ≤ 5 ∧ i = .int .i64 k ∧ Hid (Below wV.heap.size wV wr)) (fun i _ => 5 - (intOf i).toNat)
          case atStart => exact ⟨0, by omega, rfl, Lib.hid (Below.refl _ _)⟩
          case round =>
            obtain ⟨k, hk, rfl, Hb9⟩ := hrel
            by_cases hlt : k < 5
            · obtain ⟨wp, hwp⟩ : ∃ wp, wp = wr := ⟨_, rfl⟩
              rw [← hwp] at Hb9 ⊢
              clear hwp
              have hki : (k : Int) < 5 := by omega
              have hk5 : (0 : Int) ≤ (k : Int) := by omega
              obtain ⟨x, hx⟩ : ∃ x, nmL[k]? = some x := ⟨_, List.getElem?_eq_getElem hlt⟩
              have Hx := Lib.hid hx
              clear hx
              go_wp2_with fail
              go_loopw [12] (fun i wr => ∃ j : Nat, j ≤ 12 ∧ i = .int .i64 j ∧ Hid (Below wV.heap.size wV wr)) (fun i _ => 12 - (intOf i).toNat)
              case atStart => exact ⟨0, by omega, rfl, Hb9⟩
              case round =>
                obtain ⟨j, hj, rfl, Hbj⟩ := hrel
                by_cases hlj : j < 12
                · have hji : (j : Int) < 12 := by omega
                  have hj5 : (0 : Int) ≤ (j : Int) := by omega
                  obtain ⟨y, hy⟩ : ∃ y, vals12[j]? = some y := ⟨_, List.getElem?_eq_getElem hlj⟩
                  have e0 := txt_cell (HTcV.out.later Hbj.out) Hx.out
                  have e1 := txt_cell (HTV.out.later Hbj.out) hy
                  have HQ := Lib.hid fun (W : World) (hb : Hid (Below wr.heap.size wr W)) => HCa.out x y W (then_bel HBV.out (then_bel Hbj.out hb.out))
                  have HQ2 := Lib.hid (HCb.out x y)
                  clear hy
                  obtain ⟨u, E, hU⟩ : ∃ u E, callL x y = (u, E) := ⟨_, _, rfl⟩
                  rw [hU] at HQ HQ2
                  simp only at HQ HQ2
                  clear hU
                  generalize B u = uu at *
                  generalize B x = xx at *
                  generalize B y = yy at *
                  have qr : (E != E) = false := by simp
                  simp only [Nat.zero_add] at e0 e1
                  have hSt := t2_of e0 e1 (Below.refl _ wr)
                  go_wp2_with fail
                  go_region_held3 (fun w' => w'.cell? ⟨gc, k, none⟩ = some (.string xx) ∧ w'.cell? ⟨w12.heap.size, j, none⟩ = some (.string yy) ∧ Hid (Below wr.heap.size wr w'))
                    (first | assumption | (with_reducible exact t2_drew (by assumption)))
                    ((go_at_call 42; (with_reducible refine Calls.mono (HQ.out _ (t2_bel (by assumption))) ?_); rintro e w' ⟨rfl, hb⟩; have hS' := t2_of e0 e1 (then_bel (t2_bel (by assumption)).out hb); clear hb))
                  all_goals
                    rename_i hH
                    clear hSt
                    go_wp2_with fail
                    go_region_held3 (fun w' => w'.cell? ⟨gc, k, none⟩ = some (.string xx) ∧ w'.cell? ⟨w12.heap.size, j, none⟩ = some (.string yy) ∧ Hid (Below wr.heap.size wr w'))
                      (first | assumption | (with_reducible exact t2_drew (by assumption)))
                      ((go_at_call 43; (with_reducible refine Calls.mono (HQ2.out _) ?_); rintro e w' ⟨rfl, hb⟩; have hS' := t2_of e0 e1 (then_bel (t2_bel (by assumption)).out hb); clear hb))
                    all_goals
                      rename_i hH2
                      have hbH := Lib.hid hH2.2.2.out
                      clear hH hH2 e0 e1
                      go_wp2_with fail
                      go_roundw
                      case rel => exact ⟨j + 1, by omega, by go_num, Lib.hid (then_bel Hbj.out hbH.out)⟩
                      case measure => simp [intOf]; omega
                · obtain rfl : j = 12 := by omega
                  go_wp2_with fail
                  go_roundw
                  case rel => exact ⟨k + 1, by omega, by go_num, Hbj⟩
                  case measure => simp [intOf]; omega
            · obtain rfl : k = 5 := by omega
              go_wp2_with fail
              go_ret
              exact ⟨rfl, then_bel HBV.out Hb9.out⟩
end Go.Proofs.YthjcifokmcbaoaaGreatDoor.st
/- Moves in memory; base.first, base.second, the document's Moves of layer 18. No conditions. -/
namespace Go.Proofs.YthjcifokmcbaoaaGreatDoor.st
open Go.ChangeShapes Go.WideShapes Go.ChangeAt Go.RowKit gl ls

structure Mv where
  id : List UInt8
  needs : List (List UInt8)
  steps : List Sp
/-- A move's cells. -/
structure MvR where
  id : List UInt8
  pn : Option Addr
  nn : Nat
  cn : Nat
  ps : Option Addr
  ns : Nat
  cs : Nat
abbrev MvR.vn (r : MvR) : Value := .slice r.pn r.nn r.cn
abbrev MvR.vs (r : MvR) : Value := .slice r.ps r.ns r.cs
def mvC (r : MvR) : List Value := [.string (B r.id), r.vn, r.vs]
theorem mvC_len (r : MvR) : (mvC r).length = 3 := rfl
theorem mvC_one : ∀ (x : MvR), ∀ v ∈ mvC x, v.oneCell' = true := by
  intro x v hv
  simp only [mvC, List.mem_cons, List.not_mem_nil, or_false] at hv
  rcases hv with rfl | rfl | rfl <;> rfl
abbrev NewTx (M : Nat) (w : World) (v : Value) (l : List (List UInt8)) : Prop := rw.NewRw txC 1 9 M w v l
abbrev NewSp (M : Nat) (w : World) (v : Value) (l : List Sp) : Prop := rw.NewRw spC 5 42 M w v l
/-- A move in blocks from M on. -/
def Goes (M : Nat) (w : World) (r : MvR) (m : Mv) : Prop := r.id = m.id ∧ NewTx M w r.vn m.needs ∧ NewSp M w r.vs m.steps
def NewMv (M : Nat) (w : World) (v : Value) (R : List MvR) (l : List Mv) : Prop := rw.NewRw mvC 3 36 M w v R ∧ R.length = l.length ∧ ∀ (i : Nat) (r : MvR) (m : Mv), R[i]? = some r → l[i]? = some m → Goes M w r m
theorem Goes.later {M : Nat} {w w' : World} {r : MvR} {m : Mv} (h : Goes M w r m) (hb : Below w.heap.size w w') : Goes M w' r m := ⟨h.1, h.2.1.later hb, h.2.2.later hb⟩
theorem Goes.mono {M M' : Nat} {w : World} {r : MvR} {m : Mv} (h : Goes M w r m) (hM : M' ≤ M) : Goes M' w r m := ⟨h.1, h.2.1.mono hM, h.2.2.mono hM⟩
theorem NewMv.later {M : Nat} {w w' : World} {v : Value} {R : List MvR} {l : List Mv} (h : NewMv M w v R l) (hb : Below w.heap.size w w') : NewMv M w' v R l :=
  ⟨h.1.later hb, h.2.1, fun i r m h1 h2 => (h.2.2 i r m h1 h2).later hb⟩
theorem NewMv.mono {M M' : Nat} {w : World} {v : Value} {R : List MvR} {l : List Mv} (h : NewMv M w v R l) (hM : M' ≤ M) : NewMv M' w v R l :=
  ⟨h.1.mono hM, h.2.1, fun i r m h1 h2 => (h.2.2 i r m h1 h2).mono hM⟩
theorem new_lit {α : Type} {enc : α → List Value} {k : Nat} (hk : ∀ x, (enc x).length = k) {T : TypeId} {M g : Nat} {w : World} {l : List α} {cs : Array Value} (hM : M ≤ g) (h : w.heap[g]? = some (.cells cs T (0, 0))) (hc : cs.toList = rw.flat enc l) : rw.NewRw enc k T M w (.slice (some ⟨g, 0, none⟩) l.length l.length) l := by
  refine .inr ⟨g, l.length, cs, rfl, Nat.le_refl _, hM, h, ?_, fun i v hv => ?_⟩
  · rw [← Array.length_toList, hc, rw.flat_len hk]; exact Nat.le_refl _
  · rw [Nat.zero_add, ← Array.getElem?_toList, hc]; exact hv
def firstL : List Mv := [⟨[98, 48, 49], [], [⟨1, [109, 101, 116, 97], [118, 101, 114, 115, 105, 111, 110], [], [49]⟩, ⟨1, [117, 115, 101, 114, 115], [114, 111, 111, 116], [], [114, 111, 111, 116]⟩]⟩, ⟨[98, 48, 50], [[98, 48, 49]], [⟨1, [117, 115, 101, 114, 115], [103, 117, 101, 115, 116], [], [103, 117, 101, 115, 116]⟩]⟩, ⟨[98, 48, 51], [[98, 48, 49]], [⟨1, [108, 111, 103], [102, 105, 114, 115, 116], [], [115, 116, 97, 114, 116, 101, 100]⟩]⟩]
def firstR (w : World) : List MvR := [⟨[98, 48, 49], none, 0, 0, some ⟨w.heap.size, 0, none⟩, 2, 2⟩, ⟨[98, 48, 50], some ⟨w.heap.size + 1, 0, none⟩, 1, 1, some ⟨w.heap.size + 2, 0, none⟩, 1, 1⟩, ⟨[98, 48, 51], some ⟨w.heap.size + 3, 0, none⟩, 1, 1, some ⟨w.heap.size + 4, 0, none⟩, 1, 1⟩]
set_option maxHeartbeats 4000000 in
set_option maxRecDepth 100000 in
theorem first_any (w : World) : Calls Tryz.prog 59 #[] w fun e w' => (∃ v R, e = .returned v ∧ NewMv w.heap.size w' v R firstL) ∧ Below w.heap.size w w' := by
  obtain ⟨W0, hW0⟩ : ∃ W0, W0 = w.alloc (.cells #[.int .i64 1, .string ⟨#[109, 101, 116, 97]⟩, .string ⟨#[118, 101, 114, 115, 105, 111, 110]⟩, .string ⟨#[]⟩, .string ⟨#[49]⟩, .int .i64 1, .string ⟨#[117, 115, 101, 114, 115]⟩, .string ⟨#[114, 111, 111, 116]⟩, .string ⟨#[]⟩, .string ⟨#[114, 111, 111, 116]⟩] 42) := ⟨_, rfl⟩
  have z0 : W0.heap.size = w.heap.size + 1 := by rw [hW0]; simp
  have b0 : Below w.heap.size w W0 := by rw [hW0]; exact (Below.refl _ _).alloc (Nat.le_refl _) _
  have h0 : W0.heap[w.heap.size]? = some (.cells #[.int .i64 1, .string ⟨#[109, 101, 116, 97]⟩, .string ⟨#[118, 101, 114, 115, 105, 111, 110]⟩, .string ⟨#[]⟩, .string ⟨#[49]⟩, .int .i64 1, .string ⟨#[117, 115, 101, 114, 115]⟩, .string ⟨#[114, 111, 111, 116]⟩, .string ⟨#[]⟩, .string ⟨#[114, 111, 111, 116]⟩] 42 (0, 0)) := by have h := heap_alloc_new w (.cells #[.int .i64 1, .string ⟨#[109, 101, 116, 97]⟩, .string ⟨#[118, 101, 114, 115, 105, 111, 110]⟩, .string ⟨#[]⟩, .string ⟨#[49]⟩, .int .i64 1, .string ⟨#[117, 115, 101, 114, 115]⟩, .string ⟨#[114, 111, 111, 116]⟩, .string ⟨#[]⟩, .string ⟨#[114, 111, 111, 116]⟩] 42); rw [← hW0] at h; exact h
  obtain ⟨W1, hW1⟩ : ∃ W1, W1 = W0.alloc (.cells #[.string ⟨#[98, 48, 49]⟩] 9) := ⟨_, rfl⟩
  have z1 : W1.heap.size = w.heap.size + 2 := by rw [hW1]; simp [z0]
  have b1 : Below w.heap.size w W1 := by rw [hW1]; exact b0.alloc (by omega) _
  replace h0 := heap_al h0 (.cells #[.string ⟨#[98, 48, 49]⟩] 9)
  rw [← hW1] at h0
  have h1 : W1.heap[w.heap.size + 1]? = some (.cells #[.string ⟨#[98, 48, 49]⟩] 9 (0, 0)) := by have h := heap_alloc_new W0 (.cells #[.string ⟨#[98, 48, 49]⟩] 9); rw [← hW1, z0] at h; exact h
  obtain ⟨W2, hW2⟩ : ∃ W2, W2 = W1.alloc (.cells #[.int .i64 1, .string ⟨#[117, 115, 101, 114, 115]⟩, .string ⟨#[103, 117, 101, 115, 116]⟩, .string ⟨#[]⟩, .string ⟨#[103, 117, 101, 115, 116]⟩] 42) := ⟨_, rfl⟩
  have z2 : W2.heap.size = w.heap.size + 3 := by rw [hW2]; simp [z1]
  have b2 : Below w.heap.size w W2 := by rw [hW2]; exact b1.alloc (by omega) _
  replace h0 := heap_al h0 (.cells #[.int .i64 1, .string ⟨#[117, 115, 101, 114, 115]⟩, .string ⟨#[103, 117, 101, 115, 116]⟩, .string ⟨#[]⟩, .string ⟨#[103, 117, 101, 115, 116]⟩] 42)
  rw [← hW2] at h0
  replace h1 := heap_al h1 (.cells #[.int .i64 1, .string ⟨#[117, 115, 101, 114, 115]⟩, .string ⟨#[103, 117, 101, 115, 116]⟩, .string ⟨#[]⟩, .string ⟨#[103, 117, 101, 115, 116]⟩] 42)
  rw [← hW2] at h1
  have h2 : W2.heap[w.heap.size + 2]? = some (.cells #[.int .i64 1, .string ⟨#[117, 115, 101, 114, 115]⟩, .string ⟨#[103, 117, 101, 115, 116]⟩, .string ⟨#[]⟩, .string ⟨#[103, 117, 101, 115, 116]⟩] 42 (0, 0)) := by have h := heap_alloc_new W1 (.cells #[.int .i64 1, .string ⟨#[117, 115, 101, 114, 115]⟩, .string ⟨#[103, 117, 101, 115, 116]⟩, .string ⟨#[]⟩, .string ⟨#[103, 117, 101, 115, 116]⟩] 42); rw [← hW2, z1] at h; exact h
  obtain ⟨W3, hW3⟩ : ∃ W3, W3 = W2.alloc (.cells #[.string ⟨#[98, 48, 49]⟩] 9) := ⟨_, rfl⟩
  have z3 : W3.heap.size = w.heap.size + 4 := by rw [hW3]; simp [z2]
  have b3 : Below w.heap.size w W3 := by rw [hW3]; exact b2.alloc (by omega) _
  replace h0 := heap_al h0 (.cells #[.string ⟨#[98, 48, 49]⟩] 9)
  rw [← hW3] at h0
  replace h1 := heap_al h1 (.cells #[.string ⟨#[98, 48, 49]⟩] 9)
  rw [← hW3] at h1
  replace h2 := heap_al h2 (.cells #[.string ⟨#[98, 48, 49]⟩] 9)
  rw [← hW3] at h2
  have h3 : W3.heap[w.heap.size + 3]? = some (.cells #[.string ⟨#[98, 48, 49]⟩] 9 (0, 0)) := by have h := heap_alloc_new W2 (.cells #[.string ⟨#[98, 48, 49]⟩] 9); rw [← hW3, z2] at h; exact h
  obtain ⟨W4, hW4⟩ : ∃ W4, W4 = W3.alloc (.cells #[.int .i64 1, .string ⟨#[108, 111, 103]⟩, .string ⟨#[102, 105, 114, 115, 116]⟩, .string ⟨#[]⟩, .string ⟨#[115, 116, 97, 114, 116, 101, 100]⟩] 42) := ⟨_, rfl⟩
  have z4 : W4.heap.size = w.heap.size + 5 := by rw [hW4]; simp [z3]
  have b4 : Below w.heap.size w W4 := by rw [hW4]; exact b3.alloc (by omega) _
  replace h0 := heap_al h0 (.cells #[.int .i64 1, .string ⟨#[108, 111, 103]⟩, .string ⟨#[102, 105, 114, 115, 116]⟩, .string ⟨#[]⟩, .string ⟨#[115, 116, 97, 114, 116, 101, 100]⟩] 42)
  rw [← hW4] at h0
  replace h1 := heap_al h1 (.cells #[.int .i64 1, .string ⟨#[108, 111, 103]⟩, .string ⟨#[102, 105, 114, 115, 116]⟩, .string ⟨#[]⟩, .string ⟨#[115, 116, 97, 114, 116, 101, 100]⟩] 42)
  rw [← hW4] at h1
  replace h2 := heap_al h2 (.cells #[.int .i64 1, .string ⟨#[108, 111, 103]⟩, .string ⟨#[102, 105, 114, 115, 116]⟩, .string ⟨#[]⟩, .string ⟨#[115, 116, 97, 114, 116, 101, 100]⟩] 42)
  rw [← hW4] at h2
  replace h3 := heap_al h3 (.cells #[.int .i64 1, .string ⟨#[108, 111, 103]⟩, .string ⟨#[102, 105, 114, 115, 116]⟩, .string ⟨#[]⟩, .string ⟨#[115, 116, 97, 114, 116, 101, 100]⟩] 42)
  rw [← hW4] at h3
  have h4 : W4.heap[w.heap.size + 4]? = some (.cells #[.int .i64 1, .string ⟨#[108, 111, 103]⟩, .string ⟨#[102, 105, 114, 115, 116]⟩, .string ⟨#[]⟩, .string ⟨#[115, 116, 97, 114, 116, 101, 100]⟩] 42 (0, 0)) := by have h := heap_alloc_new W3 (.cells #[.int .i64 1, .string ⟨#[108, 111, 103]⟩, .string ⟨#[102, 105, 114, 115, 116]⟩, .string ⟨#[]⟩, .string ⟨#[115, 116, 97, 114, 116, 101, 100]⟩] 42); rw [← hW4, z3] at h; exact h
  obtain ⟨W5, hW5⟩ : ∃ W5, W5 = W4.alloc (.cells #[.string ⟨#[98, 48, 49]⟩, .slice none 0 0, .slice (some ⟨w.heap.size, 0, none⟩) 2 2, .string ⟨#[98, 48, 50]⟩, .slice (some ⟨w.heap.size + 1, 0, none⟩) 1 1, .slice (some ⟨w.heap.size + 2, 0, none⟩) 1 1, .string ⟨#[98, 48, 51]⟩, .slice (some ⟨w.heap.size + 3, 0, none⟩) 1 1, .slice (some ⟨w.heap.size + 4, 0, none⟩) 1 1] 36) := ⟨_, rfl⟩
  have z5 : W5.heap.size = w.heap.size + 6 := by rw [hW5]; simp [z4]
  have b5 : Below w.heap.size w W5 := by rw [hW5]; exact b4.alloc (by omega) _
  replace h0 := heap_al h0 (.cells #[.string ⟨#[98, 48, 49]⟩, .slice none 0 0, .slice (some ⟨w.heap.size, 0, none⟩) 2 2, .string ⟨#[98, 48, 50]⟩, .slice (some ⟨w.heap.size + 1, 0, none⟩) 1 1, .slice (some ⟨w.heap.size + 2, 0, none⟩) 1 1, .string ⟨#[98, 48, 51]⟩, .slice (some ⟨w.heap.size + 3, 0, none⟩) 1 1, .slice (some ⟨w.heap.size + 4, 0, none⟩) 1 1] 36)
  rw [← hW5] at h0
  replace h1 := heap_al h1 (.cells #[.string ⟨#[98, 48, 49]⟩, .slice none 0 0, .slice (some ⟨w.heap.size, 0, none⟩) 2 2, .string ⟨#[98, 48, 50]⟩, .slice (some ⟨w.heap.size + 1, 0, none⟩) 1 1, .slice (some ⟨w.heap.size + 2, 0, none⟩) 1 1, .string ⟨#[98, 48, 51]⟩, .slice (some ⟨w.heap.size + 3, 0, none⟩) 1 1, .slice (some ⟨w.heap.size + 4, 0, none⟩) 1 1] 36)
  rw [← hW5] at h1
  replace h2 := heap_al h2 (.cells #[.string ⟨#[98, 48, 49]⟩, .slice none 0 0, .slice (some ⟨w.heap.size, 0, none⟩) 2 2, .string ⟨#[98, 48, 50]⟩, .slice (some ⟨w.heap.size + 1, 0, none⟩) 1 1, .slice (some ⟨w.heap.size + 2, 0, none⟩) 1 1, .string ⟨#[98, 48, 51]⟩, .slice (some ⟨w.heap.size + 3, 0, none⟩) 1 1, .slice (some ⟨w.heap.size + 4, 0, none⟩) 1 1] 36)
  rw [← hW5] at h2
  replace h3 := heap_al h3 (.cells #[.string ⟨#[98, 48, 49]⟩, .slice none 0 0, .slice (some ⟨w.heap.size, 0, none⟩) 2 2, .string ⟨#[98, 48, 50]⟩, .slice (some ⟨w.heap.size + 1, 0, none⟩) 1 1, .slice (some ⟨w.heap.size + 2, 0, none⟩) 1 1, .string ⟨#[98, 48, 51]⟩, .slice (some ⟨w.heap.size + 3, 0, none⟩) 1 1, .slice (some ⟨w.heap.size + 4, 0, none⟩) 1 1] 36)
  rw [← hW5] at h3
  replace h4 := heap_al h4 (.cells #[.string ⟨#[98, 48, 49]⟩, .slice none 0 0, .slice (some ⟨w.heap.size, 0, none⟩) 2 2, .string ⟨#[98, 48, 50]⟩, .slice (some ⟨w.heap.size + 1, 0, none⟩) 1 1, .slice (some ⟨w.heap.size + 2, 0, none⟩) 1 1, .string ⟨#[98, 48, 51]⟩, .slice (some ⟨w.heap.size + 3, 0, none⟩) 1 1, .slice (some ⟨w.heap.size + 4, 0, none⟩) 1 1] 36)
  rw [← hW5] at h4
  have h5 : W5.heap[w.heap.size + 5]? = some (.cells #[.string ⟨#[98, 48, 49]⟩, .slice none 0 0, .slice (some ⟨w.heap.size, 0, none⟩) 2 2, .string ⟨#[98, 48, 50]⟩, .slice (some ⟨w.heap.size + 1, 0, none⟩) 1 1, .slice (some ⟨w.heap.size + 2, 0, none⟩) 1 1, .string ⟨#[98, 48, 51]⟩, .slice (some ⟨w.heap.size + 3, 0, none⟩) 1 1, .slice (some ⟨w.heap.size + 4, 0, none⟩) 1 1] 36 (0, 0)) := by have h := heap_alloc_new W4 (.cells #[.string ⟨#[98, 48, 49]⟩, .slice none 0 0, .slice (some ⟨w.heap.size, 0, none⟩) 2 2, .string ⟨#[98, 48, 50]⟩, .slice (some ⟨w.heap.size + 1, 0, none⟩) 1 1, .slice (some ⟨w.heap.size + 2, 0, none⟩) 1 1, .string ⟨#[98, 48, 51]⟩, .slice (some ⟨w.heap.size + 3, 0, none⟩) 1 1, .slice (some ⟨w.heap.size + 4, 0, none⟩) 1 1] 36); rw [← hW5, z4] at h; exact h
  have HN : Hid (NewMv w.heap.size W5 (.slice (some ⟨w.heap.size + 5, 0, none⟩) 3 3) (firstR w) firstL) := Lib.hid (by
    refine ⟨new_lit mvC_len (by omega) h5 rfl, rfl, fun i r m h1 h2 => ?_⟩
    match i with
    | 0 => simp only [firstR, firstL, List.getElem?_cons_zero, Option.some.injEq] at h1 h2; subst h1; subst h2; exact ⟨rfl, .inl ⟨rfl, rfl⟩, new_lit spC_len (by omega) h0 rfl⟩
    | 1 => simp only [firstR, firstL, List.getElem?_cons_succ, List.getElem?_cons_zero, Option.some.injEq] at h1 h2; subst h1; subst h2; exact ⟨rfl, new_lit txC_len (by omega) h1 rfl, new_lit spC_len (by omega) h2 rfl⟩
    | 2 => simp only [firstR, firstL, List.getElem?_cons_succ, List.getElem?_cons_zero, Option.some.injEq] at h1 h2; subst h1; subst h2; exact ⟨rfl, new_lit txC_len (by omega) h3 rfl, new_lit spC_len (by omega) h4 rfl⟩
    | i + 3 => simp [firstR] at h1)
  have HB := Lib.hid b5
  have HW0 := Lib.hid hW0
  have HW1 := Lib.hid hW1
  have HW2 := Lib.hid hW2
  have HW3 := Lib.hid hW3
  have HW4 := Lib.hid hW4
  have HW5 := Lib.hid hW5
  clear h0 b0 hW0 h1 b1 hW1 h2 b2 hW2 h3 b3 hW3 h4 b4 hW4 h5 b5 hW5
  go_enter Tryz.func59, Tryz.ntmps59
  go_wp2_with fail
  go_ret
  have E1 := HN.out
  have E2 := HB.out
  rw [HW5.out, HW4.out, HW3.out, HW2.out, HW1.out, HW0.out] at E1 E2
  exact ⟨⟨_, _, rfl, E1⟩, E2⟩
def secondL : List Mv := [⟨[98, 48, 52], [[98, 48, 50], [98, 48, 51]], [⟨3, [117, 115, 101, 114, 115], [114, 111, 111, 116], [97, 100, 109, 105, 110], []⟩]⟩, ⟨[98, 48, 53], [[98, 48, 50]], [⟨5, [117, 115, 101, 114, 115], [], [], [117, 112, 112, 101, 114]⟩]⟩, ⟨[98, 48, 54], [[98, 48, 52]], [⟨4, [108, 111, 103], [], [101, 118, 101, 110, 116, 115], []⟩]⟩]
def secondR (w : World) : List MvR := [⟨[98, 48, 52], some ⟨w.heap.size, 0, none⟩, 2, 2, some ⟨w.heap.size + 1, 0, none⟩, 1, 1⟩, ⟨[98, 48, 53], some ⟨w.heap.size + 2, 0, none⟩, 1, 1, some ⟨w.heap.size + 3, 0, none⟩, 1, 1⟩, ⟨[98, 48, 54], some ⟨w.heap.size + 4, 0, none⟩, 1, 1, some ⟨w.heap.size + 5, 0, none⟩, 1, 1⟩]
set_option maxHeartbeats 4000000 in
set_option maxRecDepth 100000 in
theorem second_any (w : World) : Calls Tryz.prog 60 #[] w fun e w' => (∃ v R, e = .returned v ∧ NewMv w.heap.size w' v R secondL) ∧ Below w.heap.size w w' := by
  obtain ⟨W0, hW0⟩ : ∃ W0, W0 = w.alloc (.cells #[.string ⟨#[98, 48, 50]⟩, .string ⟨#[98, 48, 51]⟩] 9) := ⟨_, rfl⟩
  have z0 : W0.heap.size = w.heap.size + 1 := by rw [hW0]; simp
  have b0 : Below w.heap.size w W0 := by rw [hW0]; exact (Below.refl _ _).alloc (Nat.le_refl _) _
  have h0 : W0.heap[w.heap.size]? = some (.cells #[.string ⟨#[98, 48, 50]⟩, .string ⟨#[98, 48, 51]⟩] 9 (0, 0)) := by have h := heap_alloc_new w (.cells #[.string ⟨#[98, 48, 50]⟩, .string ⟨#[98, 48, 51]⟩] 9); rw [← hW0] at h; exact h
  obtain ⟨W1, hW1⟩ : ∃ W1, W1 = W0.alloc (.cells #[.int .i64 3, .string ⟨#[117, 115, 101, 114, 115]⟩, .string ⟨#[114, 111, 111, 116]⟩, .string ⟨#[97, 100, 109, 105, 110]⟩, .string ⟨#[]⟩] 42) := ⟨_, rfl⟩
  have z1 : W1.heap.size = w.heap.size + 2 := by rw [hW1]; simp [z0]
  have b1 : Below w.heap.size w W1 := by rw [hW1]; exact b0.alloc (by omega) _
  replace h0 := heap_al h0 (.cells #[.int .i64 3, .string ⟨#[117, 115, 101, 114, 115]⟩, .string ⟨#[114, 111, 111, 116]⟩, .string ⟨#[97, 100, 109, 105, 110]⟩, .string ⟨#[]⟩] 42)
  rw [← hW1] at h0
  have h1 : W1.heap[w.heap.size + 1]? = some (.cells #[.int .i64 3, .string ⟨#[117, 115, 101, 114, 115]⟩, .string ⟨#[114, 111, 111, 116]⟩, .string ⟨#[97, 100, 109, 105, 110]⟩, .string ⟨#[]⟩] 42 (0, 0)) := by have h := heap_alloc_new W0 (.cells #[.int .i64 3, .string ⟨#[117, 115, 101, 114, 115]⟩, .string ⟨#[114, 111, 111, 116]⟩, .string ⟨#[97, 100, 109, 105, 110]⟩, .string ⟨#[]⟩] 42); rw [← hW1, z0] at h; exact h
  obtain ⟨W2, hW2⟩ : ∃ W2, W2 = W1.alloc (.cells #[.string ⟨#[98, 48, 50]⟩] 9) := ⟨_, rfl⟩
  have z2 : W2.heap.size = w.heap.size + 3 := by rw [hW2]; simp [z1]
  have b2 : Below w.heap.size w W2 := by rw [hW2]; exact b1.alloc (by omega) _
  replace h0 := heap_al h0 (.cells #[.string ⟨#[98, 48, 50]⟩] 9)
  rw [← hW2] at h0
  replace h1 := heap_al h1 (.cells #[.string ⟨#[98, 48, 50]⟩] 9)
  rw [← hW2] at h1
  have h2 : W2.heap[w.heap.size + 2]? = some (.cells #[.string ⟨#[98, 48, 50]⟩] 9 (0, 0)) := by have h := heap_alloc_new W1 (.cells #[.string ⟨#[98, 48, 50]⟩] 9); rw [← hW2, z1] at h; exact h
  obtain ⟨W3, hW3⟩ : ∃ W3, W3 = W2.alloc (.cells #[.int .i64 5, .string ⟨#[117, 115, 101, 114, 115]⟩, .string ⟨#[]⟩, .string ⟨#[]⟩, .string ⟨#[117, 112, 112, 101, 114]⟩] 42) := ⟨_, rfl⟩
  have z3 : W3.heap.size = w.heap.size + 4 := by rw [hW3]; simp [z2]
  have b3 : Below w.heap.size w W3 := by rw [hW3]; exact b2.alloc (by omega) _
  replace h0 := heap_al h0 (.cells #[.int .i64 5, .string ⟨#[117, 115, 101, 114, 115]⟩, .string ⟨#[]⟩, .string ⟨#[]⟩, .string ⟨#[117, 112, 112, 101, 114]⟩] 42)
  rw [← hW3] at h0
  replace h1 := heap_al h1 (.cells #[.int .i64 5, .string ⟨#[117, 115, 101, 114, 115]⟩, .string ⟨#[]⟩, .string ⟨#[]⟩, .string ⟨#[117, 112, 112, 101, 114]⟩] 42)
  rw [← hW3] at h1
  replace h2 := heap_al h2 (.cells #[.int .i64 5, .string ⟨#[117, 115, 101, 114, 115]⟩, .string ⟨#[]⟩, .string ⟨#[]⟩, .string ⟨#[117, 112, 112, 101, 114]⟩] 42)
  rw [← hW3] at h2
  have h3 : W3.heap[w.heap.size + 3]? = some (.cells #[.int .i64 5, .string ⟨#[117, 115, 101, 114, 115]⟩, .string ⟨#[]⟩, .string ⟨#[]⟩, .string ⟨#[117, 112, 112, 101, 114]⟩] 42 (0, 0)) := by have h := heap_alloc_new W2 (.cells #[.int .i64 5, .string ⟨#[117, 115, 101, 114, 115]⟩, .string ⟨#[]⟩, .string ⟨#[]⟩, .string ⟨#[117, 112, 112, 101, 114]⟩] 42); rw [← hW3, z2] at h; exact h
  obtain ⟨W4, hW4⟩ : ∃ W4, W4 = W3.alloc (.cells #[.string ⟨#[98, 48, 52]⟩] 9) := ⟨_, rfl⟩
  have z4 : W4.heap.size = w.heap.size + 5 := by rw [hW4]; simp [z3]
  have b4 : Below w.heap.size w W4 := by rw [hW4]; exact b3.alloc (by omega) _
  replace h0 := heap_al h0 (.cells #[.string ⟨#[98, 48, 52]⟩] 9)
  rw [← hW4] at h0
  replace h1 := heap_al h1 (.cells #[.string ⟨#[98, 48, 52]⟩] 9)
  rw [← hW4] at h1
  replace h2 := heap_al h2 (.cells #[.string ⟨#[98, 48, 52]⟩] 9)
  rw [← hW4] at h2
  replace h3 := heap_al h3 (.cells #[.string ⟨#[98, 48, 52]⟩] 9)
  rw [← hW4] at h3
  have h4 : W4.heap[w.heap.size + 4]? = some (.cells #[.string ⟨#[98, 48, 52]⟩] 9 (0, 0)) := by have h := heap_alloc_new W3 (.cells #[.string ⟨#[98, 48, 52]⟩] 9); rw [← hW4, z3] at h; exact h
  obtain ⟨W5, hW5⟩ : ∃ W5, W5 = W4.alloc (.cells #[.int .i64 4, .string ⟨#[108, 111, 103]⟩, .string ⟨#[]⟩, .string ⟨#[101, 118, 101, 110, 116, 115]⟩, .string ⟨#[]⟩] 42) := ⟨_, rfl⟩
  have z5 : W5.heap.size = w.heap.size + 6 := by rw [hW5]; simp [z4]
  have b5 : Below w.heap.size w W5 := by rw [hW5]; exact b4.alloc (by omega) _
  replace h0 := heap_al h0 (.cells #[.int .i64 4, .string ⟨#[108, 111, 103]⟩, .string ⟨#[]⟩, .string ⟨#[101, 118, 101, 110, 116, 115]⟩, .string ⟨#[]⟩] 42)
  rw [← hW5] at h0
  replace h1 := heap_al h1 (.cells #[.int .i64 4, .string ⟨#[108, 111, 103]⟩, .string ⟨#[]⟩, .string ⟨#[101, 118, 101, 110, 116, 115]⟩, .string ⟨#[]⟩] 42)
  rw [← hW5] at h1
  replace h2 := heap_al h2 (.cells #[.int .i64 4, .string ⟨#[108, 111, 103]⟩, .string ⟨#[]⟩, .string ⟨#[101, 118, 101, 110, 116, 115]⟩, .string ⟨#[]⟩] 42)
  rw [← hW5] at h2
  replace h3 := heap_al h3 (.cells #[.int .i64 4, .string ⟨#[108, 111, 103]⟩, .string ⟨#[]⟩, .string ⟨#[101, 118, 101, 110, 116, 115]⟩, .string ⟨#[]⟩] 42)
  rw [← hW5] at h3
  replace h4 := heap_al h4 (.cells #[.int .i64 4, .string ⟨#[108, 111, 103]⟩, .string ⟨#[]⟩, .string ⟨#[101, 118, 101, 110, 116, 115]⟩, .string ⟨#[]⟩] 42)
  rw [← hW5] at h4
  have h5 : W5.heap[w.heap.size + 5]? = some (.cells #[.int .i64 4, .string ⟨#[108, 111, 103]⟩, .string ⟨#[]⟩, .string ⟨#[101, 118, 101, 110, 116, 115]⟩, .string ⟨#[]⟩] 42 (0, 0)) := by have h := heap_alloc_new W4 (.cells #[.int .i64 4, .string ⟨#[108, 111, 103]⟩, .string ⟨#[]⟩, .string ⟨#[101, 118, 101, 110, 116, 115]⟩, .string ⟨#[]⟩] 42); rw [← hW5, z4] at h; exact h
  obtain ⟨W6, hW6⟩ : ∃ W6, W6 = W5.alloc (.cells #[.string ⟨#[98, 48, 52]⟩, .slice (some ⟨w.heap.size, 0, none⟩) 2 2, .slice (some ⟨w.heap.size + 1, 0, none⟩) 1 1, .string ⟨#[98, 48, 53]⟩, .slice (some ⟨w.heap.size + 2, 0, none⟩) 1 1, .slice (some ⟨w.heap.size + 3, 0, none⟩) 1 1, .string ⟨#[98, 48, 54]⟩, .slice (some ⟨w.heap.size + 4, 0, none⟩) 1 1, .slice (some ⟨w.heap.size + 5, 0, none⟩) 1 1] 36) := ⟨_, rfl⟩
  have z6 : W6.heap.size = w.heap.size + 7 := by rw [hW6]; simp [z5]
  have b6 : Below w.heap.size w W6 := by rw [hW6]; exact b5.alloc (by omega) _
  replace h0 := heap_al h0 (.cells #[.string ⟨#[98, 48, 52]⟩, .slice (some ⟨w.heap.size, 0, none⟩) 2 2, .slice (some ⟨w.heap.size + 1, 0, none⟩) 1 1, .string ⟨#[98, 48, 53]⟩, .slice (some ⟨w.heap.size + 2, 0, none⟩) 1 1, .slice (some ⟨w.heap.size + 3, 0, none⟩) 1 1, .string ⟨#[98, 48, 54]⟩, .slice (some ⟨w.heap.size + 4, 0, none⟩) 1 1, .slice (some ⟨w.heap.size + 5, 0, none⟩) 1 1] 36)
  rw [← hW6] at h0
  replace h1 := heap_al h1 (.cells #[.string ⟨#[98, 48, 52]⟩, .slice (some ⟨w.heap.size, 0, none⟩) 2 2, .slice (some ⟨w.heap.size + 1, 0, none⟩) 1 1, .string ⟨#[98, 48, 53]⟩, .slice (some ⟨w.heap.size + 2, 0, none⟩) 1 1, .slice (some ⟨w.heap.size + 3, 0, none⟩) 1 1, .string ⟨#[98, 48, 54]⟩, .slice (some ⟨w.heap.size + 4, 0, none⟩) 1 1, .slice (some ⟨w.heap.size + 5, 0, none⟩) 1 1] 36)
  rw [← hW6] at h1
  replace h2 := heap_al h2 (.cells #[.string ⟨#[98, 48, 52]⟩, .slice (some ⟨w.heap.size, 0, none⟩) 2 2, .slice (some ⟨w.heap.size + 1, 0, none⟩) 1 1, .string ⟨#[98, 48, 53]⟩, .slice (some ⟨w.heap.size + 2, 0, none⟩) 1 1, .slice (some ⟨w.heap.size + 3, 0, none⟩) 1 1, .string ⟨#[98, 48, 54]⟩, .slice (some ⟨w.heap.size + 4, 0, none⟩) 1 1, .slice (some ⟨w.heap.size + 5, 0, none⟩) 1 1] 36)
  rw [← hW6] at h2
  replace h3 := heap_al h3 (.cells #[.string ⟨#[98, 48, 52]⟩, .slice (some ⟨w.heap.size, 0, none⟩) 2 2, .slice (some ⟨w.heap.size + 1, 0, none⟩) 1 1, .string ⟨#[98, 48, 53]⟩, .slice (some ⟨w.heap.size + 2, 0, none⟩) 1 1, .slice (some ⟨w.heap.size + 3, 0, none⟩) 1 1, .string ⟨#[98, 48, 54]⟩, .slice (some ⟨w.heap.size + 4, 0, none⟩) 1 1, .slice (some ⟨w.heap.size + 5, 0, none⟩) 1 1] 36)
  rw [← hW6] at h3
  replace h4 := heap_al h4 (.cells #[.string ⟨#[98, 48, 52]⟩, .slice (some ⟨w.heap.size, 0, none⟩) 2 2, .slice (some ⟨w.heap.size + 1, 0, none⟩) 1 1, .string ⟨#[98, 48, 53]⟩, .slice (some ⟨w.heap.size + 2, 0, none⟩) 1 1, .slice (some ⟨w.heap.size + 3, 0, none⟩) 1 1, .string ⟨#[98, 48, 54]⟩, .slice (some ⟨w.heap.size + 4, 0, none⟩) 1 1, .slice (some ⟨w.heap.size + 5, 0, none⟩) 1 1] 36)
  rw [← hW6] at h4
  replace h5 := heap_al h5 (.cells #[.string ⟨#[98, 48, 52]⟩, .slice (some ⟨w.heap.size, 0, none⟩) 2 2, .slice (some ⟨w.heap.size + 1, 0, none⟩) 1 1, .string ⟨#[98, 48, 53]⟩, .slice (some ⟨w.heap.size + 2, 0, none⟩) 1 1, .slice (some ⟨w.heap.size + 3, 0, none⟩) 1 1, .string ⟨#[98, 48, 54]⟩, .slice (some ⟨w.heap.size + 4, 0, none⟩) 1 1, .slice (some ⟨w.heap.size + 5, 0, none⟩) 1 1] 36)
  rw [← hW6] at h5
  have h6 : W6.heap[w.heap.size + 6]? = some (.cells #[.string ⟨#[98, 48, 52]⟩, .slice (some ⟨w.heap.size, 0, none⟩) 2 2, .slice (some ⟨w.heap.size + 1, 0, none⟩) 1 1, .string ⟨#[98, 48, 53]⟩, .slice (some ⟨w.heap.size + 2, 0, none⟩) 1 1, .slice (some ⟨w.heap.size + 3, 0, none⟩) 1 1, .string ⟨#[98, 48, 54]⟩, .slice (some ⟨w.heap.size + 4, 0, none⟩) 1 1, .slice (some ⟨w.heap.size + 5, 0, none⟩) 1 1] 36 (0, 0)) := by have h := heap_alloc_new W5 (.cells #[.string ⟨#[98, 48, 52]⟩, .slice (some ⟨w.heap.size, 0, none⟩) 2 2, .slice (some ⟨w.heap.size + 1, 0, none⟩) 1 1, .string ⟨#[98, 48, 53]⟩, .slice (some ⟨w.heap.size + 2, 0, none⟩) 1 1, .slice (some ⟨w.heap.size + 3, 0, none⟩) 1 1, .string ⟨#[98, 48, 54]⟩, .slice (some ⟨w.heap.size + 4, 0, none⟩) 1 1, .slice (some ⟨w.heap.size + 5, 0, none⟩) 1 1] 36); rw [← hW6, z5] at h; exact h
  have HN : Hid (NewMv w.heap.size W6 (.slice (some ⟨w.heap.size + 6, 0, none⟩) 3 3) (secondR w) secondL) := Lib.hid (by
    refine ⟨new_lit mvC_len (by omega) h6 rfl, rfl, fun i r m h1 h2 => ?_⟩
    match i with
    | 0 => simp only [secondR, secondL, List.getElem?_cons_zero, Option.some.injEq] at h1 h2; subst h1; subst h2; exact ⟨rfl, new_lit txC_len (by omega) h0 rfl, new_lit spC_len (by omega) h1 rfl⟩
    | 1 => simp only [secondR, secondL, List.getElem?_cons_succ, List.getElem?_cons_zero, Option.some.injEq] at h1 h2; subst h1; subst h2; exact ⟨rfl, new_lit txC_len (by omega) h2 rfl, new_lit spC_len (by omega) h3 rfl⟩
    | 2 => simp only [secondR, secondL, List.getElem?_cons_succ, List.getElem?_cons_zero, Option.some.injEq] at h1 h2; subst h1; subst h2; exact ⟨rfl, new_lit txC_len (by omega) h4 rfl, new_lit spC_len (by omega) h5 rfl⟩
    | i + 3 => simp [secondR] at h1)
  have HB := Lib.hid b6
  have HW0 := Lib.hid hW0
  have HW1 := Lib.hid hW1
  have HW2 := Lib.hid hW2
  have HW3 := Lib.hid hW3
  have HW4 := Lib.hid hW4
  have HW5 := Lib.hid hW5
  have HW6 := Lib.hid hW6
  clear h0 b0 hW0 h1 b1 hW1 h2 b2 hW2 h3 b3 hW3 h4 b4 hW4 h5 b5 hW5 h6 b6 hW6
  go_enter Tryz.func60, Tryz.ntmps60
  go_wp2_with fail
  go_ret
  have E1 := HN.out
  have E2 := HB.out
  rw [HW6.out, HW5.out, HW4.out, HW3.out, HW2.out, HW1.out, HW0.out] at E1 E2
  exact ⟨⟨_, _, rfl, E1⟩, E2⟩
def baseL : List Mv := [⟨[98, 48, 49], [], [⟨1, [109, 101, 116, 97], [118, 101, 114, 115, 105, 111, 110], [], [49]⟩, ⟨1, [117, 115, 101, 114, 115], [114, 111, 111, 116], [], [114, 111, 111, 116]⟩]⟩, ⟨[98, 48, 50], [[98, 48, 49]], [⟨1, [117, 115, 101, 114, 115], [103, 117, 101, 115, 116], [], [103, 117, 101, 115, 116]⟩]⟩, ⟨[98, 48, 51], [[98, 48, 49]], [⟨1, [108, 111, 103], [102, 105, 114, 115, 116], [], [115, 116, 97, 114, 116, 101, 100]⟩]⟩, ⟨[98, 48, 52], [[98, 48, 50], [98, 48, 51]], [⟨3, [117, 115, 101, 114, 115], [114, 111, 111, 116], [97, 100, 109, 105, 110], []⟩]⟩, ⟨[98, 48, 53], [[98, 48, 50]], [⟨5, [117, 115, 101, 114, 115], [], [], [117, 112, 112, 101, 114]⟩]⟩, ⟨[98, 48, 54], [[98, 48, 52]], [⟨4, [108, 111, 103], [], [101, 118, 101, 110, 116, 115], []⟩]⟩]
def baseR (w : World) : List MvR := [⟨[98, 48, 49], none, 0, 0, some ⟨w.heap.size, 0, none⟩, 2, 2⟩, ⟨[98, 48, 50], some ⟨w.heap.size + 1, 0, none⟩, 1, 1, some ⟨w.heap.size + 2, 0, none⟩, 1, 1⟩, ⟨[98, 48, 51], some ⟨w.heap.size + 3, 0, none⟩, 1, 1, some ⟨w.heap.size + 4, 0, none⟩, 1, 1⟩, ⟨[98, 48, 52], some ⟨w.heap.size + 5, 0, none⟩, 2, 2, some ⟨w.heap.size + 6, 0, none⟩, 1, 1⟩, ⟨[98, 48, 53], some ⟨w.heap.size + 7, 0, none⟩, 1, 1, some ⟨w.heap.size + 8, 0, none⟩, 1, 1⟩, ⟨[98, 48, 54], some ⟨w.heap.size + 9, 0, none⟩, 1, 1, some ⟨w.heap.size + 10, 0, none⟩, 1, 1⟩]
set_option maxHeartbeats 4000000 in
set_option maxRecDepth 100000 in
theorem base_any (w : World) : Calls Tryz.prog 14 #[] w fun e w' => (∃ v R, e = .returned v ∧ NewMv w.heap.size w' v R baseL) ∧ Below w.heap.size w w' := by
  obtain ⟨W0, hW0⟩ : ∃ W0, W0 = w.alloc (.cells #[.int .i64 1, .string ⟨#[109, 101, 116, 97]⟩, .string ⟨#[118, 101, 114, 115, 105, 111, 110]⟩, .string ⟨#[]⟩, .string ⟨#[49]⟩, .int .i64 1, .string ⟨#[117, 115, 101, 114, 115]⟩, .string ⟨#[114, 111, 111, 116]⟩, .string ⟨#[]⟩, .string ⟨#[114, 111, 111, 116]⟩] 42) := ⟨_, rfl⟩
  have z0 : W0.heap.size = w.heap.size + 1 := by rw [hW0]; simp
  have b0 : Below w.heap.size w W0 := by rw [hW0]; exact (Below.refl _ _).alloc (Nat.le_refl _) _
  have h0 : W0.heap[w.heap.size]? = some (.cells #[.int .i64 1, .string ⟨#[109, 101, 116, 97]⟩, .string ⟨#[118, 101, 114, 115, 105, 111, 110]⟩, .string ⟨#[]⟩, .string ⟨#[49]⟩, .int .i64 1, .string ⟨#[117, 115, 101, 114, 115]⟩, .string ⟨#[114, 111, 111, 116]⟩, .string ⟨#[]⟩, .string ⟨#[114, 111, 111, 116]⟩] 42 (0, 0)) := by have h := heap_alloc_new w (.cells #[.int .i64 1, .string ⟨#[109, 101, 116, 97]⟩, .string ⟨#[118, 101, 114, 115, 105, 111, 110]⟩, .string ⟨#[]⟩, .string ⟨#[49]⟩, .int .i64 1, .string ⟨#[117, 115, 101, 114, 115]⟩, .string ⟨#[114, 111, 111, 116]⟩, .string ⟨#[]⟩, .string ⟨#[114, 111, 111, 116]⟩] 42); rw [← hW0] at h; exact h
  obtain ⟨W1, hW1⟩ : ∃ W1, W1 = W0.alloc (.cells #[.string ⟨#[98, 48, 49]⟩] 9) := ⟨_, rfl⟩
  have z1 : W1.heap.size = w.heap.size + 2 := by rw [hW1]; simp [z0]
  have b1 : Below w.heap.size w W1 := by rw [hW1]; exact b0.alloc (by omega) _
  replace h0 := heap_al h0 (.cells #[.string ⟨#[98, 48, 49]⟩] 9)
  rw [← hW1] at h0
  have h1 : W1.heap[w.heap.size + 1]? = some (.cells #[.string ⟨#[98, 48, 49]⟩] 9 (0, 0)) := by have h := heap_alloc_new W0 (.cells #[.string ⟨#[98, 48, 49]⟩] 9); rw [← hW1, z0] at h; exact h
  obtain ⟨W2, hW2⟩ : ∃ W2, W2 = W1.alloc (.cells #[.int .i64 1, .string ⟨#[117, 115, 101, 114, 115]⟩, .string ⟨#[103, 117, 101, 115, 116]⟩, .string ⟨#[]⟩, .string ⟨#[103, 117, 101, 115, 116]⟩] 42) := ⟨_, rfl⟩
  have z2 : W2.heap.size = w.heap.size + 3 := by rw [hW2]; simp [z1]
  have b2 : Below w.heap.size w W2 := by rw [hW2]; exact b1.alloc (by omega) _
  replace h0 := heap_al h0 (.cells #[.int .i64 1, .string ⟨#[117, 115, 101, 114, 115]⟩, .string ⟨#[103, 117, 101, 115, 116]⟩, .string ⟨#[]⟩, .string ⟨#[103, 117, 101, 115, 116]⟩] 42)
  rw [← hW2] at h0
  replace h1 := heap_al h1 (.cells #[.int .i64 1, .string ⟨#[117, 115, 101, 114, 115]⟩, .string ⟨#[103, 117, 101, 115, 116]⟩, .string ⟨#[]⟩, .string ⟨#[103, 117, 101, 115, 116]⟩] 42)
  rw [← hW2] at h1
  have h2 : W2.heap[w.heap.size + 2]? = some (.cells #[.int .i64 1, .string ⟨#[117, 115, 101, 114, 115]⟩, .string ⟨#[103, 117, 101, 115, 116]⟩, .string ⟨#[]⟩, .string ⟨#[103, 117, 101, 115, 116]⟩] 42 (0, 0)) := by have h := heap_alloc_new W1 (.cells #[.int .i64 1, .string ⟨#[117, 115, 101, 114, 115]⟩, .string ⟨#[103, 117, 101, 115, 116]⟩, .string ⟨#[]⟩, .string ⟨#[103, 117, 101, 115, 116]⟩] 42); rw [← hW2, z1] at h; exact h
  obtain ⟨W3, hW3⟩ : ∃ W3, W3 = W2.alloc (.cells #[.string ⟨#[98, 48, 49]⟩] 9) := ⟨_, rfl⟩
  have z3 : W3.heap.size = w.heap.size + 4 := by rw [hW3]; simp [z2]
  have b3 : Below w.heap.size w W3 := by rw [hW3]; exact b2.alloc (by omega) _
  replace h0 := heap_al h0 (.cells #[.string ⟨#[98, 48, 49]⟩] 9)
  rw [← hW3] at h0
  replace h1 := heap_al h1 (.cells #[.string ⟨#[98, 48, 49]⟩] 9)
  rw [← hW3] at h1
  replace h2 := heap_al h2 (.cells #[.string ⟨#[98, 48, 49]⟩] 9)
  rw [← hW3] at h2
  have h3 : W3.heap[w.heap.size + 3]? = some (.cells #[.string ⟨#[98, 48, 49]⟩] 9 (0, 0)) := by have h := heap_alloc_new W2 (.cells #[.string ⟨#[98, 48, 49]⟩] 9); rw [← hW3, z2] at h; exact h
  obtain ⟨W4, hW4⟩ : ∃ W4, W4 = W3.alloc (.cells #[.int .i64 1, .string ⟨#[108, 111, 103]⟩, .string ⟨#[102, 105, 114, 115, 116]⟩, .string ⟨#[]⟩, .string ⟨#[115, 116, 97, 114, 116, 101, 100]⟩] 42) := ⟨_, rfl⟩
  have z4 : W4.heap.size = w.heap.size + 5 := by rw [hW4]; simp [z3]
  have b4 : Below w.heap.size w W4 := by rw [hW4]; exact b3.alloc (by omega) _
  replace h0 := heap_al h0 (.cells #[.int .i64 1, .string ⟨#[108, 111, 103]⟩, .string ⟨#[102, 105, 114, 115, 116]⟩, .string ⟨#[]⟩, .string ⟨#[115, 116, 97, 114, 116, 101, 100]⟩] 42)
  rw [← hW4] at h0
  replace h1 := heap_al h1 (.cells #[.int .i64 1, .string ⟨#[108, 111, 103]⟩, .string ⟨#[102, 105, 114, 115, 116]⟩, .string ⟨#[]⟩, .string ⟨#[115, 116, 97, 114, 116, 101, 100]⟩] 42)
  rw [← hW4] at h1
  replace h2 := heap_al h2 (.cells #[.int .i64 1, .string ⟨#[108, 111, 103]⟩, .string ⟨#[102, 105, 114, 115, 116]⟩, .string ⟨#[]⟩, .string ⟨#[115, 116, 97, 114, 116, 101, 100]⟩] 42)
  rw [← hW4] at h2
  replace h3 := heap_al h3 (.cells #[.int .i64 1, .string ⟨#[108, 111, 103]⟩, .string ⟨#[102, 105, 114, 115, 116]⟩, .string ⟨#[]⟩, .string ⟨#[115, 116, 97, 114, 116, 101, 100]⟩] 42)
  rw [← hW4] at h3
  have h4 : W4.heap[w.heap.size + 4]? = some (.cells #[.int .i64 1, .string ⟨#[108, 111, 103]⟩, .string ⟨#[102, 105, 114, 115, 116]⟩, .string ⟨#[]⟩, .string ⟨#[115, 116, 97, 114, 116, 101, 100]⟩] 42 (0, 0)) := by have h := heap_alloc_new W3 (.cells #[.int .i64 1, .string ⟨#[108, 111, 103]⟩, .string ⟨#[102, 105, 114, 115, 116]⟩, .string ⟨#[]⟩, .string ⟨#[115, 116, 97, 114, 116, 101, 100]⟩] 42); rw [← hW4, z3] at h; exact h
  obtain ⟨W5, hW5⟩ : ∃ W5, W5 = W4.alloc (.cells #[.string ⟨#[98, 48, 50]⟩, .string ⟨#[98, 48, 51]⟩] 9) := ⟨_, rfl⟩
  have z5 : W5.heap.size = w.heap.size + 6 := by rw [hW5]; simp [z4]
  have b5 : Below w.heap.size w W5 := by rw [hW5]; exact b4.alloc (by omega) _
  replace h0 := heap_al h0 (.cells #[.string ⟨#[98, 48, 50]⟩, .string ⟨#[98, 48, 51]⟩] 9)
  rw [← hW5] at h0
  replace h1 := heap_al h1 (.cells #[.string ⟨#[98, 48, 50]⟩, .string ⟨#[98, 48, 51]⟩] 9)
  rw [← hW5] at h1
  replace h2 := heap_al h2 (.cells #[.string ⟨#[98, 48, 50]⟩, .string ⟨#[98, 48, 51]⟩] 9)
  rw [← hW5] at h2
  replace h3 := heap_al h3 (.cells #[.string ⟨#[98, 48, 50]⟩, .string ⟨#[98, 48, 51]⟩] 9)
  rw [← hW5] at h3
  replace h4 := heap_al h4 (.cells #[.string ⟨#[98, 48, 50]⟩, .string ⟨#[98, 48, 51]⟩] 9)
  rw [← hW5] at h4
  have h5 : W5.heap[w.heap.size + 5]? = some (.cells #[.string ⟨#[98, 48, 50]⟩, .string ⟨#[98, 48, 51]⟩] 9 (0, 0)) := by have h := heap_alloc_new W4 (.cells #[.string ⟨#[98, 48, 50]⟩, .string ⟨#[98, 48, 51]⟩] 9); rw [← hW5, z4] at h; exact h
  obtain ⟨W6, hW6⟩ : ∃ W6, W6 = W5.alloc (.cells #[.int .i64 3, .string ⟨#[117, 115, 101, 114, 115]⟩, .string ⟨#[114, 111, 111, 116]⟩, .string ⟨#[97, 100, 109, 105, 110]⟩, .string ⟨#[]⟩] 42) := ⟨_, rfl⟩
  have z6 : W6.heap.size = w.heap.size + 7 := by rw [hW6]; simp [z5]
  have b6 : Below w.heap.size w W6 := by rw [hW6]; exact b5.alloc (by omega) _
  replace h0 := heap_al h0 (.cells #[.int .i64 3, .string ⟨#[117, 115, 101, 114, 115]⟩, .string ⟨#[114, 111, 111, 116]⟩, .string ⟨#[97, 100, 109, 105, 110]⟩, .string ⟨#[]⟩] 42)
  rw [← hW6] at h0
  replace h1 := heap_al h1 (.cells #[.int .i64 3, .string ⟨#[117, 115, 101, 114, 115]⟩, .string ⟨#[114, 111, 111, 116]⟩, .string ⟨#[97, 100, 109, 105, 110]⟩, .string ⟨#[]⟩] 42)
  rw [← hW6] at h1
  replace h2 := heap_al h2 (.cells #[.int .i64 3, .string ⟨#[117, 115, 101, 114, 115]⟩, .string ⟨#[114, 111, 111, 116]⟩, .string ⟨#[97, 100, 109, 105, 110]⟩, .string ⟨#[]⟩] 42)
  rw [← hW6] at h2
  replace h3 := heap_al h3 (.cells #[.int .i64 3, .string ⟨#[117, 115, 101, 114, 115]⟩, .string ⟨#[114, 111, 111, 116]⟩, .string ⟨#[97, 100, 109, 105, 110]⟩, .string ⟨#[]⟩] 42)
  rw [← hW6] at h3
  replace h4 := heap_al h4 (.cells #[.int .i64 3, .string ⟨#[117, 115, 101, 114, 115]⟩, .string ⟨#[114, 111, 111, 116]⟩, .string ⟨#[97, 100, 109, 105, 110]⟩, .string ⟨#[]⟩] 42)
  rw [← hW6] at h4
  replace h5 := heap_al h5 (.cells #[.int .i64 3, .string ⟨#[117, 115, 101, 114, 115]⟩, .string ⟨#[114, 111, 111, 116]⟩, .string ⟨#[97, 100, 109, 105, 110]⟩, .string ⟨#[]⟩] 42)
  rw [← hW6] at h5
  have h6 : W6.heap[w.heap.size + 6]? = some (.cells #[.int .i64 3, .string ⟨#[117, 115, 101, 114, 115]⟩, .string ⟨#[114, 111, 111, 116]⟩, .string ⟨#[97, 100, 109, 105, 110]⟩, .string ⟨#[]⟩] 42 (0, 0)) := by have h := heap_alloc_new W5 (.cells #[.int .i64 3, .string ⟨#[117, 115, 101, 114, 115]⟩, .string ⟨#[114, 111, 111, 116]⟩, .string ⟨#[97, 100, 109, 105, 110]⟩, .string ⟨#[]⟩] 42); rw [← hW6, z5] at h; exact h
  obtain ⟨W7, hW7⟩ : ∃ W7, W7 = W6.alloc (.cells #[.string ⟨#[98, 48, 50]⟩] 9) := ⟨_, rfl⟩
  have z7 : W7.heap.size = w.heap.size + 8 := by rw [hW7]; simp [z6]
  have b7 : Below w.heap.size w W7 := by rw [hW7]; exact b6.alloc (by omega) _
  replace h0 := heap_al h0 (.cells #[.string ⟨#[98, 48, 50]⟩] 9)
  rw [← hW7] at h0
  replace h1 := heap_al h1 (.cells #[.string ⟨#[98, 48, 50]⟩] 9)
  rw [← hW7] at h1
  replace h2 := heap_al h2 (.cells #[.string ⟨#[98, 48, 50]⟩] 9)
  rw [← hW7] at h2
  replace h3 := heap_al h3 (.cells #[.string ⟨#[98, 48, 50]⟩] 9)
  rw [← hW7] at h3
  replace h4 := heap_al h4 (.cells #[.string ⟨#[98, 48, 50]⟩] 9)
  rw [← hW7] at h4
  replace h5 := heap_al h5 (.cells #[.string ⟨#[98, 48, 50]⟩] 9)
  rw [← hW7] at h5
  replace h6 := heap_al h6 (.cells #[.string ⟨#[98, 48, 50]⟩] 9)
  rw [← hW7] at h6
  have h7 : W7.heap[w.heap.size + 7]? = some (.cells #[.string ⟨#[98, 48, 50]⟩] 9 (0, 0)) := by have h := heap_alloc_new W6 (.cells #[.string ⟨#[98, 48, 50]⟩] 9); rw [← hW7, z6] at h; exact h
  obtain ⟨W8, hW8⟩ : ∃ W8, W8 = W7.alloc (.cells #[.int .i64 5, .string ⟨#[117, 115, 101, 114, 115]⟩, .string ⟨#[]⟩, .string ⟨#[]⟩, .string ⟨#[117, 112, 112, 101, 114]⟩] 42) := ⟨_, rfl⟩
  have z8 : W8.heap.size = w.heap.size + 9 := by rw [hW8]; simp [z7]
  have b8 : Below w.heap.size w W8 := by rw [hW8]; exact b7.alloc (by omega) _
  replace h0 := heap_al h0 (.cells #[.int .i64 5, .string ⟨#[117, 115, 101, 114, 115]⟩, .string ⟨#[]⟩, .string ⟨#[]⟩, .string ⟨#[117, 112, 112, 101, 114]⟩] 42)
  rw [← hW8] at h0
  replace h1 := heap_al h1 (.cells #[.int .i64 5, .string ⟨#[117, 115, 101, 114, 115]⟩, .string ⟨#[]⟩, .string ⟨#[]⟩, .string ⟨#[117, 112, 112, 101, 114]⟩] 42)
  rw [← hW8] at h1
  replace h2 := heap_al h2 (.cells #[.int .i64 5, .string ⟨#[117, 115, 101, 114, 115]⟩, .string ⟨#[]⟩, .string ⟨#[]⟩, .string ⟨#[117, 112, 112, 101, 114]⟩] 42)
  rw [← hW8] at h2
  replace h3 := heap_al h3 (.cells #[.int .i64 5, .string ⟨#[117, 115, 101, 114, 115]⟩, .string ⟨#[]⟩, .string ⟨#[]⟩, .string ⟨#[117, 112, 112, 101, 114]⟩] 42)
  rw [← hW8] at h3
  replace h4 := heap_al h4 (.cells #[.int .i64 5, .string ⟨#[117, 115, 101, 114, 115]⟩, .string ⟨#[]⟩, .string ⟨#[]⟩, .string ⟨#[117, 112, 112, 101, 114]⟩] 42)
  rw [← hW8] at h4
  replace h5 := heap_al h5 (.cells #[.int .i64 5, .string ⟨#[117, 115, 101, 114, 115]⟩, .string ⟨#[]⟩, .string ⟨#[]⟩, .string ⟨#[117, 112, 112, 101, 114]⟩] 42)
  rw [← hW8] at h5
  replace h6 := heap_al h6 (.cells #[.int .i64 5, .string ⟨#[117, 115, 101, 114, 115]⟩, .string ⟨#[]⟩, .string ⟨#[]⟩, .string ⟨#[117, 112, 112, 101, 114]⟩] 42)
  rw [← hW8] at h6
  replace h7 := heap_al h7 (.cells #[.int .i64 5, .string ⟨#[117, 115, 101, 114, 115]⟩, .string ⟨#[]⟩, .string ⟨#[]⟩, .string ⟨#[117, 112, 112, 101, 114]⟩] 42)
  rw [← hW8] at h7
  have h8 : W8.heap[w.heap.size + 8]? = some (.cells #[.int .i64 5, .string ⟨#[117, 115, 101, 114, 115]⟩, .string ⟨#[]⟩, .string ⟨#[]⟩, .string ⟨#[117, 112, 112, 101, 114]⟩] 42 (0, 0)) := by have h := heap_alloc_new W7 (.cells #[.int .i64 5, .string ⟨#[117, 115, 101, 114, 115]⟩, .string ⟨#[]⟩, .string ⟨#[]⟩, .string ⟨#[117, 112, 112, 101, 114]⟩] 42); rw [← hW8, z7] at h; exact h
  obtain ⟨W9, hW9⟩ : ∃ W9, W9 = W8.alloc (.cells #[.string ⟨#[98, 48, 52]⟩] 9) := ⟨_, rfl⟩
  have z9 : W9.heap.size = w.heap.size + 10 := by rw [hW9]; simp [z8]
  have b9 : Below w.heap.size w W9 := by rw [hW9]; exact b8.alloc (by omega) _
  replace h0 := heap_al h0 (.cells #[.string ⟨#[98, 48, 52]⟩] 9)
  rw [← hW9] at h0
  replace h1 := heap_al h1 (.cells #[.string ⟨#[98, 48, 52]⟩] 9)
  rw [← hW9] at h1
  replace h2 := heap_al h2 (.cells #[.string ⟨#[98, 48, 52]⟩] 9)
  rw [← hW9] at h2
  replace h3 := heap_al h3 (.cells #[.string ⟨#[98, 48, 52]⟩] 9)
  rw [← hW9] at h3
  replace h4 := heap_al h4 (.cells #[.string ⟨#[98, 48, 52]⟩] 9)
  rw [← hW9] at h4
  replace h5 := heap_al h5 (.cells #[.string ⟨#[98, 48, 52]⟩] 9)
  rw [← hW9] at h5
  replace h6 := heap_al h6 (.cells #[.string ⟨#[98, 48, 52]⟩] 9)
  rw [← hW9] at h6
  replace h7 := heap_al h7 (.cells #[.string ⟨#[98, 48, 52]⟩] 9)
  rw [← hW9] at h7
  replace h8 := heap_al h8 (.cells #[.string ⟨#[98, 48, 52]⟩] 9)
  rw [← hW9] at h8
  have h9 : W9.heap[w.heap.size + 9]? = some (.cells #[.string ⟨#[98, 48, 52]⟩] 9 (0, 0)) := by have h := heap_alloc_new W8 (.cells #[.string ⟨#[98, 48, 52]⟩] 9); rw [← hW9, z8] at h; exact h
  obtain ⟨W10, hW10⟩ : ∃ W10, W10 = W9.alloc (.cells #[.int .i64 4, .string ⟨#[108, 111, 103]⟩, .string ⟨#[]⟩, .string ⟨#[101, 118, 101, 110, 116, 115]⟩, .string ⟨#[]⟩] 42) := ⟨_, rfl⟩
  have z10 : W10.heap.size = w.heap.size + 11 := by rw [hW10]; simp [z9]
  have b10 : Below w.heap.size w W10 := by rw [hW10]; exact b9.alloc (by omega) _
  replace h0 := heap_al h0 (.cells #[.int .i64 4, .string ⟨#[108, 111, 103]⟩, .string ⟨#[]⟩, .string ⟨#[101, 118, 101, 110, 116, 115]⟩, .string ⟨#[]⟩] 42)
  rw [← hW10] at h0
  replace h1 := heap_al h1 (.cells #[.int .i64 4, .string ⟨#[108, 111, 103]⟩, .string ⟨#[]⟩, .string ⟨#[101, 118, 101, 110, 116, 115]⟩, .string ⟨#[]⟩] 42)
  rw [← hW10] at h1
  replace h2 := heap_al h2 (.cells #[.int .i64 4, .string ⟨#[108, 111, 103]⟩, .string ⟨#[]⟩, .string ⟨#[101, 118, 101, 110, 116, 115]⟩, .string ⟨#[]⟩] 42)
  rw [← hW10] at h2
  replace h3 := heap_al h3 (.cells #[.int .i64 4, .string ⟨#[108, 111, 103]⟩, .string ⟨#[]⟩, .string ⟨#[101, 118, 101, 110, 116, 115]⟩, .string ⟨#[]⟩] 42)
  rw [← hW10] at h3
  replace h4 := heap_al h4 (.cells #[.int .i64 4, .string ⟨#[108, 111, 103]⟩, .string ⟨#[]⟩, .string ⟨#[101, 118, 101, 110, 116, 115]⟩, .string ⟨#[]⟩] 42)
  rw [← hW10] at h4
  replace h5 := heap_al h5 (.cells #[.int .i64 4, .string ⟨#[108, 111, 103]⟩, .string ⟨#[]⟩, .string ⟨#[101, 118, 101, 110, 116, 115]⟩, .string ⟨#[]⟩] 42)
  rw [← hW10] at h5
  replace h6 := heap_al h6 (.cells #[.int .i64 4, .string ⟨#[108, 111, 103]⟩, .string ⟨#[]⟩, .string ⟨#[101, 118, 101, 110, 116, 115]⟩, .string ⟨#[]⟩] 42)
  rw [← hW10] at h6
  replace h7 := heap_al h7 (.cells #[.int .i64 4, .string ⟨#[108, 111, 103]⟩, .string ⟨#[]⟩, .string ⟨#[101, 118, 101, 110, 116, 115]⟩, .string ⟨#[]⟩] 42)
  rw [← hW10] at h7
  replace h8 := heap_al h8 (.cells #[.int .i64 4, .string ⟨#[108, 111, 103]⟩, .string ⟨#[]⟩, .string ⟨#[101, 118, 101, 110, 116, 115]⟩, .string ⟨#[]⟩] 42)
  rw [← hW10] at h8
  replace h9 := heap_al h9 (.cells #[.int .i64 4, .string ⟨#[108, 111, 103]⟩, .string ⟨#[]⟩, .string ⟨#[101, 118, 101, 110, 116, 115]⟩, .string ⟨#[]⟩] 42)
  rw [← hW10] at h9
  have h10 : W10.heap[w.heap.size + 10]? = some (.cells #[.int .i64 4, .string ⟨#[108, 111, 103]⟩, .string ⟨#[]⟩, .string ⟨#[101, 118, 101, 110, 116, 115]⟩, .string ⟨#[]⟩] 42 (0, 0)) := by have h := heap_alloc_new W9 (.cells #[.int .i64 4, .string ⟨#[108, 111, 103]⟩, .string ⟨#[]⟩, .string ⟨#[101, 118, 101, 110, 116, 115]⟩, .string ⟨#[]⟩] 42); rw [← hW10, z9] at h; exact h
  obtain ⟨W11, hW11⟩ : ∃ W11, W11 = W10.alloc (.cells #[.string ⟨#[98, 48, 49]⟩, .slice none 0 0, .slice (some ⟨w.heap.size, 0, none⟩) 2 2, .string ⟨#[98, 48, 50]⟩, .slice (some ⟨w.heap.size + 1, 0, none⟩) 1 1, .slice (some ⟨w.heap.size + 2, 0, none⟩) 1 1, .string ⟨#[98, 48, 51]⟩, .slice (some ⟨w.heap.size + 3, 0, none⟩) 1 1, .slice (some ⟨w.heap.size + 4, 0, none⟩) 1 1, .string ⟨#[98, 48, 52]⟩, .slice (some ⟨w.heap.size + 5, 0, none⟩) 2 2, .slice (some ⟨w.heap.size + 6, 0, none⟩) 1 1, .string ⟨#[98, 48, 53]⟩, .slice (some ⟨w.heap.size + 7, 0, none⟩) 1 1, .slice (some ⟨w.heap.size + 8, 0, none⟩) 1 1, .string ⟨#[98, 48, 54]⟩, .slice (some ⟨w.heap.size + 9, 0, none⟩) 1 1, .slice (some ⟨w.heap.size + 10, 0, none⟩) 1 1] 36) := ⟨_, rfl⟩
  have z11 : W11.heap.size = w.heap.size + 12 := by rw [hW11]; simp [z10]
  have b11 : Below w.heap.size w W11 := by rw [hW11]; exact b10.alloc (by omega) _
  replace h0 := heap_al h0 (.cells #[.string ⟨#[98, 48, 49]⟩, .slice none 0 0, .slice (some ⟨w.heap.size, 0, none⟩) 2 2, .string ⟨#[98, 48, 50]⟩, .slice (some ⟨w.heap.size + 1, 0, none⟩) 1 1, .slice (some ⟨w.heap.size + 2, 0, none⟩) 1 1, .string ⟨#[98, 48, 51]⟩, .slice (some ⟨w.heap.size + 3, 0, none⟩) 1 1, .slice (some ⟨w.heap.size + 4, 0, none⟩) 1 1, .string ⟨#[98, 48, 52]⟩, .slice (some ⟨w.heap.size + 5, 0, none⟩) 2 2, .slice (some ⟨w.heap.size + 6, 0, none⟩) 1 1, .string ⟨#[98, 48, 53]⟩, .slice (some ⟨w.heap.size + 7, 0, none⟩) 1 1, .slice (some ⟨w.heap.size + 8, 0, none⟩) 1 1, .string ⟨#[98, 48, 54]⟩, .slice (some ⟨w.heap.size + 9, 0, none⟩) 1 1, .slice (some ⟨w.heap.size + 10, 0, none⟩) 1 1] 36)
  rw [← hW11] at h0
  replace h1 := heap_al h1 (.cells #[.string ⟨#[98, 48, 49]⟩, .slice none 0 0, .slice (some ⟨w.heap.size, 0, none⟩) 2 2, .string ⟨#[98, 48, 50]⟩, .slice (some ⟨w.heap.size + 1, 0, none⟩) 1 1, .slice (some ⟨w.heap.size + 2, 0, none⟩) 1 1, .string ⟨#[98, 48, 51]⟩, .slice (some ⟨w.heap.size + 3, 0, none⟩) 1 1, .slice (some ⟨w.heap.size + 4, 0, none⟩) 1 1, .string ⟨#[98, 48, 52]⟩, .slice (some ⟨w.heap.size + 5, 0, none⟩) 2 2, .slice (some ⟨w.heap.size + 6, 0, none⟩) 1 1, .string ⟨#[98, 48, 53]⟩, .slice (some ⟨w.heap.size + 7, 0, none⟩) 1 1, .slice (some ⟨w.heap.size + 8, 0, none⟩) 1 1, .string ⟨#[98, 48, 54]⟩, .slice (some ⟨w.heap.size + 9, 0, none⟩) 1 1, .slice (some ⟨w.heap.size + 10, 0, none⟩) 1 1] 36)
  rw [← hW11] at h1
  replace h2 := heap_al h2 (.cells #[.string ⟨#[98, 48, 49]⟩, .slice none 0 0, .slice (some ⟨w.heap.size, 0, none⟩) 2 2, .string ⟨#[98, 48, 50]⟩, .slice (some ⟨w.heap.size + 1, 0, none⟩) 1 1, .slice (some ⟨w.heap.size + 2, 0, none⟩) 1 1, .string ⟨#[98, 48, 51]⟩, .slice (some ⟨w.heap.size + 3, 0, none⟩) 1 1, .slice (some ⟨w.heap.size + 4, 0, none⟩) 1 1, .string ⟨#[98, 48, 52]⟩, .slice (some ⟨w.heap.size + 5, 0, none⟩) 2 2, .slice (some ⟨w.heap.size + 6, 0, none⟩) 1 1, .string ⟨#[98, 48, 53]⟩, .slice (some ⟨w.heap.size + 7, 0, none⟩) 1 1, .slice (some ⟨w.heap.size + 8, 0, none⟩) 1 1, .string ⟨#[98, 48, 54]⟩, .slice (some ⟨w.heap.size + 9, 0, none⟩) 1 1, .slice (some ⟨w.heap.size + 10, 0, none⟩) 1 1] 36)
  rw [← hW11] at h2
  replace h3 := heap_al h3 (.cells #[.string ⟨#[98, 48, 49]⟩, .slice none 0 0, .slice (some ⟨w.heap.size, 0, none⟩) 2 2, .string ⟨#[98, 48, 50]⟩, .slice (some ⟨w.heap.size + 1, 0, none⟩) 1 1, .slice (some ⟨w.heap.size + 2, 0, none⟩) 1 1, .string ⟨#[98, 48, 51]⟩, .slice (some ⟨w.heap.size + 3, 0, none⟩) 1 1, .slice (some ⟨w.heap.size + 4, 0, none⟩) 1 1, .string ⟨#[98, 48, 52]⟩, .slice (some ⟨w.heap.size + 5, 0, none⟩) 2 2, .slice (some ⟨w.heap.size + 6, 0, none⟩) 1 1, .string ⟨#[98, 48, 53]⟩, .slice (some ⟨w.heap.size + 7, 0, none⟩) 1 1, .slice (some ⟨w.heap.size + 8, 0, none⟩) 1 1, .string ⟨#[98, 48, 54]⟩, .slice (some ⟨w.heap.size + 9, 0, none⟩) 1 1, .slice (some ⟨w.heap.size + 10, 0, none⟩) 1 1] 36)
  rw [← hW11] at h3
  replace h4 := heap_al h4 (.cells #[.string ⟨#[98, 48, 49]⟩, .slice none 0 0, .slice (some ⟨w.heap.size, 0, none⟩) 2 2, .string ⟨#[98, 48, 50]⟩, .slice (some ⟨w.heap.size + 1, 0, none⟩) 1 1, .slice (some ⟨w.heap.size + 2, 0, none⟩) 1 1, .string ⟨#[98, 48, 51]⟩, .slice (some ⟨w.heap.size + 3, 0, none⟩) 1 1, .slice (some ⟨w.heap.size + 4, 0, none⟩) 1 1, .string ⟨#[98, 48, 52]⟩, .slice (some ⟨w.heap.size + 5, 0, none⟩) 2 2, .slice (some ⟨w.heap.size + 6, 0, none⟩) 1 1, .string ⟨#[98, 48, 53]⟩, .slice (some ⟨w.heap.size + 7, 0, none⟩) 1 1, .slice (some ⟨w.heap.size + 8, 0, none⟩) 1 1, .string ⟨#[98, 48, 54]⟩, .slice (some ⟨w.heap.size + 9, 0, none⟩) 1 1, .slice (some ⟨w.heap.size + 10, 0, none⟩) 1 1] 36)
  rw [← hW11] at h4
  replace h5 := heap_al h5 (.cells #[.string ⟨#[98, 48, 49]⟩, .slice none 0 0, .slice (some ⟨w.heap.size, 0, none⟩) 2 2, .string ⟨#[98, 48, 50]⟩, .slice (some ⟨w.heap.size + 1, 0, none⟩) 1 1, .slice (some ⟨w.heap.size + 2, 0, none⟩) 1 1, .string ⟨#[98, 48, 51]⟩, .slice (some ⟨w.heap.size + 3, 0, none⟩) 1 1, .slice (some ⟨w.heap.size + 4, 0, none⟩) 1 1, .string ⟨#[98, 48, 52]⟩, .slice (some ⟨w.heap.size + 5, 0, none⟩) 2 2, .slice (some ⟨w.heap.size + 6, 0, none⟩) 1 1, .string ⟨#[98, 48, 53]⟩, .slice (some ⟨w.heap.size + 7, 0, none⟩) 1 1, .slice (some ⟨w.heap.size + 8, 0, none⟩) 1 1, .string ⟨#[98, 48, 54]⟩, .slice (some ⟨w.heap.size + 9, 0, none⟩) 1 1, .slice (some ⟨w.heap.size + 10, 0, none⟩) 1 1] 36)
  rw [← hW11] at h5
  replace h6 := heap_al h6 (.cells #[.string ⟨#[98, 48, 49]⟩, .slice none 0 0, .slice (some ⟨w.heap.size, 0, none⟩) 2 2, .string ⟨#[98, 48, 50]⟩, .slice (some ⟨w.heap.size + 1, 0, none⟩) 1 1, .slice (some ⟨w.heap.size + 2, 0, none⟩) 1 1, .string ⟨#[98, 48, 51]⟩, .slice (some ⟨w.heap.size + 3, 0, none⟩) 1 1, .slice (some ⟨w.heap.size + 4, 0, none⟩) 1 1, .string ⟨#[98, 48, 52]⟩, .slice (some ⟨w.heap.size + 5, 0, none⟩) 2 2, .slice (some ⟨w.heap.size + 6, 0, none⟩) 1 1, .string ⟨#[98, 48, 53]⟩, .slice (some ⟨w.heap.size + 7, 0, none⟩) 1 1, .slice (some ⟨w.heap.size + 8, 0, none⟩) 1 1, .string ⟨#[98, 48, 54]⟩, .slice (some ⟨w.heap.size + 9, 0, none⟩) 1 1, .slice (some ⟨w.heap.size + 10, 0, none⟩) 1 1] 36)
  rw [← hW11] at h6
  replace h7 := heap_al h7 (.cells #[.string ⟨#[98, 48, 49]⟩, .slice none 0 0, .slice (some ⟨w.heap.size, 0, none⟩) 2 2, .string ⟨#[98, 48, 50]⟩, .slice (some ⟨w.heap.size + 1, 0, none⟩) 1 1, .slice (some ⟨w.heap.size + 2, 0, none⟩) 1 1, .string ⟨#[98, 48, 51]⟩, .slice (some ⟨w.heap.size + 3, 0, none⟩) 1 1, .slice (some ⟨w.heap.size + 4, 0, none⟩) 1 1, .string ⟨#[98, 48, 52]⟩, .slice (some ⟨w.heap.size + 5, 0, none⟩) 2 2, .slice (some ⟨w.heap.size + 6, 0, none⟩) 1 1, .string ⟨#[98, 48, 53]⟩, .slice (some ⟨w.heap.size + 7, 0, none⟩) 1 1, .slice (some ⟨w.heap.size + 8, 0, none⟩) 1 1, .string ⟨#[98, 48, 54]⟩, .slice (some ⟨w.heap.size + 9, 0, none⟩) 1 1, .slice (some ⟨w.heap.size + 10, 0, none⟩) 1 1] 36)
  rw [← hW11] at h7
  replace h8 := heap_al h8 (.cells #[.string ⟨#[98, 48, 49]⟩, .slice none 0 0, .slice (some ⟨w.heap.size, 0, none⟩) 2 2, .string ⟨#[98, 48, 50]⟩, .slice (some ⟨w.heap.size + 1, 0, none⟩) 1 1, .slice (some ⟨w.heap.size + 2, 0, none⟩) 1 1, .string ⟨#[98, 48, 51]⟩, .slice (some ⟨w.heap.size + 3, 0, none⟩) 1 1, .slice (some ⟨w.heap.size + 4, 0, none⟩) 1 1, .string ⟨#[98, 48, 52]⟩, .slice (some ⟨w.heap.size + 5, 0, none⟩) 2 2, .slice (some ⟨w.heap.size + 6, 0, none⟩) 1 1, .string ⟨#[98, 48, 53]⟩, .slice (some ⟨w.heap.size + 7, 0, none⟩) 1 1, .slice (some ⟨w.heap.size + 8, 0, none⟩) 1 1, .string ⟨#[98, 48, 54]⟩, .slice (some ⟨w.heap.size + 9, 0, none⟩) 1 1, .slice (some ⟨w.heap.size + 10, 0, none⟩) 1 1] 36)
  rw [← hW11] at h8
  replace h9 := heap_al h9 (.cells #[.string ⟨#[98, 48, 49]⟩, .slice none 0 0, .slice (some ⟨w.heap.size, 0, none⟩) 2 2, .string ⟨#[98, 48, 50]⟩, .slice (some ⟨w.heap.size + 1, 0, none⟩) 1 1, .slice (some ⟨w.heap.size + 2, 0, none⟩) 1 1, .string ⟨#[98, 48, 51]⟩, .slice (some ⟨w.heap.size + 3, 0, none⟩) 1 1, .slice (some ⟨w.heap.size + 4, 0, none⟩) 1 1, .string ⟨#[98, 48, 52]⟩, .slice (some ⟨w.heap.size + 5, 0, none⟩) 2 2, .slice (some ⟨w.heap.size + 6, 0, none⟩) 1 1, .string ⟨#[98, 48, 53]⟩, .slice (some ⟨w.heap.size + 7, 0, none⟩) 1 1, .slice (some ⟨w.heap.size + 8, 0, none⟩) 1 1, .string ⟨#[98, 48, 54]⟩, .slice (some ⟨w.heap.size + 9, 0, none⟩) 1 1, .slice (some ⟨w.heap.size + 10, 0, none⟩) 1 1] 36)
  rw [← hW11] at h9
  replace h10 := heap_al h10 (.cells #[.string ⟨#[98, 48, 49]⟩, .slice none 0 0, .slice (some ⟨w.heap.size, 0, none⟩) 2 2, .string ⟨#[98, 48, 50]⟩, .slice (some ⟨w.heap.size + 1, 0, none⟩) 1 1, .slice (some ⟨w.heap.size + 2, 0, none⟩) 1 1, .string ⟨#[98, 48, 51]⟩, .slice (some ⟨w.heap.size + 3, 0, none⟩) 1 1, .slice (some ⟨w.heap.size + 4, 0, none⟩) 1 1, .string ⟨#[98, 48, 52]⟩, .slice (some ⟨w.heap.size + 5, 0, none⟩) 2 2, .slice (some ⟨w.heap.size + 6, 0, none⟩) 1 1, .string ⟨#[98, 48, 53]⟩, .slice (some ⟨w.heap.size + 7, 0, none⟩) 1 1, .slice (some ⟨w.heap.size + 8, 0, none⟩) 1 1, .string ⟨#[98, 48, 54]⟩, .slice (some ⟨w.heap.size + 9, 0, none⟩) 1 1, .slice (some ⟨w.heap.size + 10, 0, none⟩) 1 1] 36)
  rw [← hW11] at h10
  have h11 : W11.heap[w.heap.size + 11]? = some (.cells #[.string ⟨#[98, 48, 49]⟩, .slice none 0 0, .slice (some ⟨w.heap.size, 0, none⟩) 2 2, .string ⟨#[98, 48, 50]⟩, .slice (some ⟨w.heap.size + 1, 0, none⟩) 1 1, .slice (some ⟨w.heap.size + 2, 0, none⟩) 1 1, .string ⟨#[98, 48, 51]⟩, .slice (some ⟨w.heap.size + 3, 0, none⟩) 1 1, .slice (some ⟨w.heap.size + 4, 0, none⟩) 1 1, .string ⟨#[98, 48, 52]⟩, .slice (some ⟨w.heap.size + 5, 0, none⟩) 2 2, .slice (some ⟨w.heap.size + 6, 0, none⟩) 1 1, .string ⟨#[98, 48, 53]⟩, .slice (some ⟨w.heap.size + 7, 0, none⟩) 1 1, .slice (some ⟨w.heap.size + 8, 0, none⟩) 1 1, .string ⟨#[98, 48, 54]⟩, .slice (some ⟨w.heap.size + 9, 0, none⟩) 1 1, .slice (some ⟨w.heap.size + 10, 0, none⟩) 1 1] 36 (0, 0)) := by have h := heap_alloc_new W10 (.cells #[.string ⟨#[98, 48, 49]⟩, .slice none 0 0, .slice (some ⟨w.heap.size, 0, none⟩) 2 2, .string ⟨#[98, 48, 50]⟩, .slice (some ⟨w.heap.size + 1, 0, none⟩) 1 1, .slice (some ⟨w.heap.size + 2, 0, none⟩) 1 1, .string ⟨#[98, 48, 51]⟩, .slice (some ⟨w.heap.size + 3, 0, none⟩) 1 1, .slice (some ⟨w.heap.size + 4, 0, none⟩) 1 1, .string ⟨#[98, 48, 52]⟩, .slice (some ⟨w.heap.size + 5, 0, none⟩) 2 2, .slice (some ⟨w.heap.size + 6, 0, none⟩) 1 1, .string ⟨#[98, 48, 53]⟩, .slice (some ⟨w.heap.size + 7, 0, none⟩) 1 1, .slice (some ⟨w.heap.size + 8, 0, none⟩) 1 1, .string ⟨#[98, 48, 54]⟩, .slice (some ⟨w.heap.size + 9, 0, none⟩) 1 1, .slice (some ⟨w.heap.size + 10, 0, none⟩) 1 1] 36); rw [← hW11, z10] at h; exact h
  have HN : Hid (NewMv w.heap.size W11 (.slice (some ⟨w.heap.size + 11, 0, none⟩) 6 6) (baseR w) baseL) := Lib.hid (by
    refine ⟨new_lit mvC_len (by omega) h11 rfl, rfl, fun i r m h1 h2 => ?_⟩
    match i with
    | 0 => simp only [baseR, baseL, List.getElem?_cons_zero, Option.some.injEq] at h1 h2; subst h1; subst h2; exact ⟨rfl, .inl ⟨rfl, rfl⟩, new_lit spC_len (by omega) h0 rfl⟩
    | 1 => simp only [baseR, baseL, List.getElem?_cons_succ, List.getElem?_cons_zero, Option.some.injEq] at h1 h2; subst h1; subst h2; exact ⟨rfl, new_lit txC_len (by omega) h1 rfl, new_lit spC_len (by omega) h2 rfl⟩
    | 2 => simp only [baseR, baseL, List.getElem?_cons_succ, List.getElem?_cons_zero, Option.some.injEq] at h1 h2; subst h1; subst h2; exact ⟨rfl, new_lit txC_len (by omega) h3 rfl, new_lit spC_len (by omega) h4 rfl⟩
    | 3 => simp only [baseR, baseL, List.getElem?_cons_succ, List.getElem?_cons_zero, Option.some.injEq] at h1 h2; subst h1; subst h2; exact ⟨rfl, new_lit txC_len (by omega) h5 rfl, new_lit spC_len (by omega) h6 rfl⟩
    | 4 => simp only [baseR, baseL, List.getElem?_cons_succ, List.getElem?_cons_zero, Option.some.injEq] at h1 h2; subst h1; subst h2; exact ⟨rfl, new_lit txC_len (by omega) h7 rfl, new_lit spC_len (by omega) h8 rfl⟩
    | 5 => simp only [baseR, baseL, List.getElem?_cons_succ, List.getElem?_cons_zero, Option.some.injEq] at h1 h2; subst h1; subst h2; exact ⟨rfl, new_lit txC_len (by omega) h9 rfl, new_lit spC_len (by omega) h10 rfl⟩
    | i + 6 => simp [baseR] at h1)
  have HB := Lib.hid b11
  have HW0 := Lib.hid hW0
  have HW1 := Lib.hid hW1
  have HW2 := Lib.hid hW2
  have HW3 := Lib.hid hW3
  have HW4 := Lib.hid hW4
  have HW5 := Lib.hid hW5
  have HW6 := Lib.hid hW6
  have HW7 := Lib.hid hW7
  have HW8 := Lib.hid hW8
  have HW9 := Lib.hid hW9
  have HW10 := Lib.hid hW10
  have HW11 := Lib.hid hW11
  clear h0 b0 hW0 h1 b1 hW1 h2 b2 hW2 h3 b3 hW3 h4 b4 hW4 h5 b5 hW5 h6 b6 hW6 h7 b7 hW7 h8 b8 hW8 h9 b9 hW9 h10 b10 hW10 h11 b11 hW11
  go_enter Tryz.func14, Tryz.ntmps14
  go_wp2_with fail
  go_ret
  have E1 := HN.out
  have E2 := HB.out
  rw [HW11.out, HW10.out, HW9.out, HW8.out, HW7.out, HW6.out, HW5.out, HW4.out, HW3.out, HW2.out, HW1.out, HW0.out] at E1 E2
  exact ⟨⟨_, _, rfl, E1⟩, E2⟩
end Go.Proofs.YthjcifokmcbaoaaGreatDoor.st
/- base.together of two lists of moves; base.Moves. No conditions. -/
namespace Go.Proofs.YthjcifokmcbaoaaGreatDoor.st
open Go.ChangeShapes Go.WideShapes Go.ChangeAt Go.RowKit gl ls

theorem flat_back {α : Type} {enc : α → List Value} {k : Nat} (hk : ∀ x, (enc x).length = k) (hk0 : 0 < k) {l : List α} {q : Nat} {v : Value} (h : (rw.flat enc l)[q]? = some v) : ∃ y, l[q / k]? = some y ∧ (enc y)[q % k]? = some v := by
  have hq := (List.getElem?_eq_some_iff.1 h).1
  rw [rw.flat_len hk] at hq
  have h1 : q / k < l.length := (Nat.div_lt_iff_lt_mul hk0).2 hq
  have h2 : q % k < (enc l[q / k]).length := by rw [hk]; exact Nat.mod_lt _ hk0
  have h3 := rw.flat_at hk l (q / k) _ (q % k) _ (List.getElem?_eq_getElem h1) (List.getElem?_eq_getElem h2)
  rw [Nat.mul_comm, Nat.div_add_mod, h] at h3
  exact ⟨_, List.getElem?_eq_getElem h1, by rw [List.getElem?_eq_getElem h2]; exact h3.symm⟩
theorem rw_src {α : Type} {enc : α → List Value} {k : Nat} (hk : ∀ x, (enc x).length = k) (hk0 : 0 < k) {w : World} {p : Option Addr} {n c : Nat} {l : List α} (h : rw.Rw enc k w (.slice p n c) l) : SrcV w (.slice p n c) n (rw.flat enc l) := by
  obtain ⟨hl, _, hp⟩ := h.ptr
  by_cases h0 : n = 0
  · subst h0
    obtain rfl : l = [] := List.eq_nil_of_length_eq_zero hl
    exact .inl ⟨rfl, rfl, p, c, rfl⟩
  · obtain ⟨b, o, rfl, _⟩ := hp (by omega)
    refine .inr ⟨by omega, _, c, rfl, fun j u hj => ?_⟩
    obtain ⟨y, hy, hu⟩ := flat_back hk hk0 hj
    have := rw.Rw.cell h hy hu
    rw [Nat.mul_comm, Nat.div_add_mod] at this
    rw [ls.addN]
    exact this
theorem infoMv : (Tryz.prog.info? 36).map (fun i => (i.zero, i.size, i.bytes)) = some (some (.agg #[.string .empty, .slice none 0 0, .slice none 0 0]), 3, 64) := by kernel_rfl
set_option maxHeartbeats 4000000 in
set_option maxRecDepth 100000 in
theorem together_any (g : Nat) (p1 p2 : Option Addr) (n1 n2 c1 c2 : Nat) (R1 R2 : List MvR) (w : World) (h1 : w.cell? ⟨g, 0, none⟩ = some (.slice p1 n1 c1)) (h2 : w.cell? ⟨g, 1, none⟩ = some (.slice p2 n2 c2)) (hR1 : rw.Rw mvC 3 w (.slice p1 n1 c1) R1) (hR2 : rw.Rw mvC 3 w (.slice p2 n2 c2) R2) (hn1 : n1 ≤ 100000) (hn2 : n2 ≤ 100000) :
    Calls Tryz.prog 58 #[.slice (some ⟨g, 0, none⟩) 2 2] w fun e w' => (∃ v, e = .returned v ∧ rw.NewRw mvC 3 36 w.heap.size w' v (R1 ++ R2)) ∧ Below w.heap.size w w' := by
  obtain ⟨i0, si, sz0, sz1, sz2⟩ := info_parts infoMv
  have H1 := Lib.hid h1
  have H2 := Lib.hid h2
  have HR1 := Lib.hid hR1
  have HR2 := Lib.hid hR2
  have hl1 : R1.length = n1 := hR1.ptr.1
  have hl2 : R2.length = n2 := hR2.ptr.1
  have Hl1 := Lib.hid hl1
  have Hl2 := Lib.hid hl2
  have hg : g < w.heap.size := World.block_lt_of_cell? _ _ h1
  clear hR1 hR2 hl1 hl2 h1 h2
  go_enter Tryz.func58, Tryz.ntmps58
  go_wp2_with fail
  go_loopw [3, 8] (fun o i wr => ∃ (j n : Nat) (R : List MvR), j ≤ 2 ∧ i = .int .i64 j ∧ n ≤ j * 100000 ∧ Hid (R = (if j = 0 then [] else if j = 1 then R1 else R1 ++ R2)) ∧ Hid (wr.ownsRow w.heap.size 36 3 o n (rw.flat mvC R)) ∧ Hid (Below w.heap.size w wr)) (fun _ i _ => 2 - (intOf i).toNat)
  case atStart => exact ⟨0, 0, [], by omega, rfl, by omega, Lib.hid rfl, Lib.hid ⟨rfl, .inl ⟨rfl, rfl⟩⟩, Lib.hid (Below.refl _ _)⟩
  case round =>
    obtain ⟨j, n, R, hj, rfl, hn, HR, Ho, Hb⟩ := hrel
    have hgr : g < wr.heap.size := by have := Hb.out.size; omega
    have hzr := Hb.out.size
    by_cases hlt : j < 2
    · obtain ⟨p, m, c, Rn, hc, hsrc, hm, hml, hnx⟩ : ∃ (p : Option Addr) (m c : Nat) (Rn : List MvR), wr.cell? ⟨g, j, none⟩ = some (.slice p m c) ∧ SrcV wr (.slice p m c) m (rw.flat mvC Rn) ∧ m ≤ 100000 ∧ Rn.length = m ∧ R ++ Rn = (if j + 1 = 0 then [] else if j + 1 = 1 then R1 else R1 ++ R2) := by
        rcases (show j = 0 ∨ j = 1 by omega) with rfl | rfl
        · exact ⟨p1, n1, c1, R1, cell_then H1.out Hb.out, rw_src mvC_len (by decide) (HR1.out.later Hb.out), hn1, Hl1.out, by rw [HR.out]; rfl⟩
        · exact ⟨p2, n2, c2, R2, cell_then H2.out Hb.out, rw_src mvC_len (by decide) (HR2.out.later Hb.out), hn2, Hl2.out, by rw [HR.out]; rfl⟩
      have Hsrc := Lib.hid hsrc
      have Hnx := Lib.hid hnx
      have Hml := Lib.hid hml
      have hji : (j : Int) < 2 := by omega
      have hj5 : (0 : Int) ≤ (j : Int) := by omega
      clear hsrc hnx hml
      focus
        go_wp2_with (at_builtin; go_must (refine wpList_append_any rfl _ _ 22 rfl 36 i0 _ 3 64 Tryz.underlying22 si sz0 sz1 sz2 rfl (by decide) w.heap.size _ n _ (by rfl) Ho.out _ m _ (by rfl) Hsrc.out (by rw [rw.flat_len mvC_len, Hml.out]) (rw.flat_one mvC_one _) (by omega) (by omega) (by omega) ?_))
      intro p' cap w5 hown hgrow
      have Hown := Lib.hid hown
      have HB5 := Lib.hid (below_grown_own Hb.out Ho.out hgrow hzr)
      clear hown hgrow
      go_wp2_with fail
      go_roundw
      case rel => exact ⟨j + 1, n + m, R ++ Rn, by omega, by go_num, by omega, Hnx, Lib.hid (by rw [rw.flat_append]; exact Hown.out), HB5⟩
      case measure => simp [intOf]; omega
    · obtain rfl : j = 2 := by omega
      go_wp2_with fail
      go_ret
      refine ⟨⟨_, rfl, ?_⟩, Hb.out⟩
      have := rw.own_new mvC_len (by decide) Ho.out
      rw [HR.out] at this
      exact this
end Go.Proofs.YthjcifokmcbaoaaGreatDoor.st
/- base.Moves: the six moves, in blocks of the call's own. No conditions. -/
namespace Go.Proofs.YthjcifokmcbaoaaGreatDoor.st
open Go.ChangeShapes Go.WideShapes Go.ChangeAt Go.RowKit gl ls

theorem base_parts : firstL ++ secondL = baseL := rfl
theorem NewMv.join {M : Nat} {w : World} {v v1 v2 : Value} {R1 R2 : List MvR} {l1 l2 : List Mv} (h : rw.NewRw mvC 3 36 M w v (R1 ++ R2)) (h1 : NewMv M w v1 R1 l1) (h2 : NewMv M w v2 R2 l2) : NewMv M w v (R1 ++ R2) (l1 ++ l2) := by
  refine ⟨h, by rw [List.length_append, List.length_append, h1.2.1, h2.2.1], fun i r m hr hm => ?_⟩
  by_cases hi : i < R1.length
  · rw [List.getElem?_append_left hi] at hr
    rw [List.getElem?_append_left (by rw [← h1.2.1]; exact hi)] at hm
    exact h1.2.2 i r m hr hm
  · rw [List.getElem?_append_right (by omega)] at hr
    rw [List.getElem?_append_right (by rw [← h1.2.1]; omega), ← h1.2.1] at hm
    exact h2.2.2 _ r m hr hm
set_option maxHeartbeats 4000000 in
set_option maxRecDepth 100000 in
theorem moves_any (w : World) : Calls Tryz.prog 17 #[] w fun e w' => (∃ v R, e = .returned v ∧ NewMv w.heap.size w' v R baseL) ∧ Below w.heap.size w w' := by
  go_enter Tryz.func17, Tryz.ntmps17
  go_wp2_with fail
  refine (first_any w).mono ?_
  rintro e w1 ⟨⟨v1, R1, rfl, h1⟩, hb1⟩
  have H1 := Lib.hid h1
  have HB1 := Lib.hid hb1
  clear h1 hb1
  go_wp2_with fail
  refine (second_any w1).mono ?_
  rintro e w2 ⟨⟨v2, R2, rfl, h2⟩, hb2⟩
  obtain ⟨p1, c1, rfl⟩ := rw.NewRw.form H1.out.1
  obtain ⟨p2, c2, rfl⟩ := rw.NewRw.form h2.1
  have hl1 : R1.length = 3 := H1.out.2.1
  have hl2 : R2.length = 3 := h2.2.1
  rw [hl1] at H1 ⊢
  rw [hl2] at h2 ⊢
  have HB2 := Lib.hid (then_bel HB1.out hb2)
  have H12 := Lib.hid (H1.out.later hb2)
  have H22 := Lib.hid (h2.mono (HB1.out.size))
  clear h2 hb2
  obtain ⟨w3, hw3⟩ : ∃ w3, w3 = w2.alloc (.cells #[.slice p1 3 c1, .slice p2 3 c2] 22) := ⟨_, rfl⟩
  have hb3 : Below w2.heap.size w2 w3 := by rw [hw3]; exact (Below.refl _ _).alloc (Nat.le_refl _) _
  have hblk : w3.heap[w2.heap.size]? = some (.cells #[.slice p1 3 c1, .slice p2 3 c2] 22 (0, 0)) := by rw [hw3]; exact heap_alloc_new w2 _
  have k1 : w3.cell? ⟨w2.heap.size, 0, none⟩ = some (.slice p1 3 c1) := cell_in hblk
  have k2 : w3.cell? ⟨w2.heap.size, 1, none⟩ = some (.slice p2 3 c2) := cell_in hblk
  have H13 := Lib.hid (H12.out.later hb3)
  have H23 := Lib.hid (H22.out.later hb3)
  have HB3 := Lib.hid (then_bel HB2.out hb3)
  have HT := Lib.hid (together_any w2.heap.size p1 p2 3 3 c1 c2 R1 R2 w3 k1 k2 (H13.out.1.rw mvC_len) (H23.out.1.rw mvC_len) (by omega) (by omega))
  clear k1 k2 hblk hb3
  go_wp2_with fail
  rw [← hw3]
  refine HT.out.mono ?_
  rintro e w4 ⟨⟨v4, rfl, h4⟩, hb4⟩
  have HN := Lib.hid (NewMv.join (h4.mono HB3.out.size) (H13.out.later hb4) (H23.out.later hb4))
  have HB4 := Lib.hid (then_bel HB3.out hb4)
  clear h4 hb4
  go_wp2_with fail
  go_ret
  exact ⟨⟨_, _, rfl, HN.out⟩, HB4.out⟩
end Go.Proofs.YthjcifokmcbaoaaGreatDoor.st
