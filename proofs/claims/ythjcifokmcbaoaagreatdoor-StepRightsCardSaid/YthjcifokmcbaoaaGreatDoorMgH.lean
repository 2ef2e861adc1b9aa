/- Laws and contracts on which the statement rests, part H: each text says what it proves, and its conditions. -/
import Derived.Test.YthjcifokmcbaoaaGreatDoorMgG
import Derived.Laws.StructEq
import Derived.Deep.RegionHeld3
/- Two pairs held against each other; law 16's same. Conditions: lists of at most 4294967295 pairs. -/
namespace Go.Proofs.YthjcifokmcbaoaaGreatDoor.st
open Go.ChangeShapes Go.WideShapes Go.ChangeAt Go.RowKit gl ls

theorem prFields : (Tryz.prog.fieldsOf 57).toList.map (fun f => (decide (f.name ≠ "_"), f.type, f.offset)) = [(true, 9, 0), (true, 9, 1), (true, 9, 2)] := by kernel_rfl
theorem three_fields {l : List Field} {t0 t1 t2 : TypeId} (h : l.map (fun f => (decide (f.name ≠ "_"), f.type, f.offset)) = [(true, t0, 0), (true, t1, 1), (true, t2, 2)]) :
    ∃ f0 f1 f2 : Field, l = [f0, f1, f2] ∧ f0.name ≠ "_" ∧ f0.type = t0 ∧ f0.offset = 0 ∧ f1.name ≠ "_" ∧ f1.type = t1 ∧ f1.offset = 1 ∧ f2.name ≠ "_" ∧ f2.type = t2 ∧ f2.offset = 2 := by
  obtain ⟨f0, r0, rfl, h0, h⟩ := List.map_eq_cons_iff.1 h
  obtain ⟨f1, r1, rfl, h1, h⟩ := List.map_eq_cons_iff.1 h
  obtain ⟨f2, r2, rfl, h2, h⟩ := List.map_eq_cons_iff.1 h
  obtain rfl := List.map_eq_nil_iff.1 h
  simp only [Prod.mk.injEq, decide_eq_true_eq] at h0 h1 h2
  exact ⟨f0, f1, f2, rfl, h0.1, h0.2.1, h0.2.2, h1.1, h1.2.1, h1.2.2, h2.1, h2.2.1, h2.2.2⟩
set_option maxRecDepth 100000 in
theorem neq_pr (a b c a2 b2 c2 : ByteArray) (w : World) :
    (binOp .neq 57 (.agg #[.string a, .string b, .string c]) (.agg #[.string a2, .string b2, .string c2])).run Tryz.prog w = .ok (.bool (!((a.toList == a2.toList) && ((b.toList == b2.toList) && (c.toList == c2.toList))))) w := by
  have hs : Tryz.prog.underlying 9 = some .string := Tryz.underlying9
  have hc : Tryz.prog.cellsOf 9 = 1 := by kernel_rfl
  obtain ⟨f0, f1, f2, hf, n0, t0, o0, n1, t1, o1, n2', t2, o2⟩ := three_fields prFields
  rw [run_neq_struct, run_equalIn_struct w 9999 57 _ _ Tryz.underlying57 (by kernel_rfl), hf]
  simp only [Op.eqFields, n0, n1, n2', t0, t1, t2, o0, o1, o2, ne_eq, not_false_eq_true, if_true]
  cases h1 : (a.toList == a2.toList) <;> cases h2 : (b.toList == b2.toList) <;> cases h3 : (c.toList == c2.toList) <;> simp [go_sem, part, hs, hc, h1, h2, h3]
  all_goals trace_state
set_option maxRecDepth 100000 in
theorem eql_pr (a b c a2 b2 c2 : ByteArray) (w : World) :
    (binOp .eql 57 (.agg #[.string a, .string b, .string c]) (.agg #[.string a2, .string b2, .string c2])).run Tryz.prog w = .ok (.bool ((a.toList == a2.toList) && ((b.toList == b2.toList) && (c.toList == c2.toList)))) w := by
  have hs : Tryz.prog.underlying 9 = some .string := Tryz.underlying9
  have hc : Tryz.prog.cellsOf 9 = 1 := by kernel_rfl
  obtain ⟨f0, f1, f2, hf, n0, t0, o0, n1, t1, o1, n2', t2, o2⟩ := three_fields prFields
  rw [run_eql_struct, run_equalIn_struct w 9999 57 _ _ Tryz.underlying57 (by kernel_rfl), hf]
  simp only [Op.eqFields, n0, n1, n2', t0, t1, t2, o0, o1, o2, ne_eq, not_false_eq_true, if_true]
  cases h1 : (a.toList == a2.toList) <;> cases h2 : (b.toList == b2.toList) <;> cases h3 : (c.toList == c2.toList) <;> simp [go_sem, part, hs, hc, h1, h2, h3]
  all_goals trace_state
theorem pr_same (x y : Pr) (h : x = y) : (!(((B x.table).toList == (B y.table).toList) && (((B x.key).toList == (B y.key).toList) && ((B x.value).toList == (B y.value).toList)))) = false := by
  subst h
  simp
set_option maxHeartbeats 2000000 in
set_option maxRecDepth 100000 in
theorem same_any (p p' : Option Addr) (m m' c c' : Nat) (l l' : List Pr) (hl : m ≤ 4294967295) (hl' : m' ≤ 4294967295) (w : World) (h : Prs w (.slice p m c) l) (h' : Prs w (.slice p' m' c') l') :
    Calls Tryz.prog 37 #[.slice p m c, .slice p' m' c'] w fun e w' => ∃ r : Bool, e = .returned (.bool r) ∧ (l = l' → r = true) ∧ ∃ q, w' = w.drewN q := by
  obtain ⟨hlen, hmc, hptr⟩ := h.ptr
  obtain ⟨hlen', hmc', hptr'⟩ := h'.ptr
  have HS := Lib.hid h
  have HS' := Lib.hid h'
  have Hlen := Lib.hid hlen
  have Hlen' := Lib.hid hlen'
  have Hptr := Lib.hid hptr
  have Hptr' := Lib.hid hptr'
  clear h h' hlen hlen' hptr hptr'
  by_cases hmm : m = m'
  · subst hmm
    go_enter Tryz.func37, Tryz.ntmps37
    go_wp2_with fail
    go_loopw [5] (fun i wr => ∃ j q : Nat, j ≤ m ∧ i = .int .i64 j ∧ wr = w.drewN q) (fun i _ => m - (intOf i).toNat)
    case atStart => exact ⟨0, 0, by omega, rfl, rfl⟩
    case round =>
      obtain ⟨j, q, hj, rfl, rfl⟩ := hrel
      by_cases hlt : j < m
      · obtain ⟨b, o, rfl, hbl⟩ := Hptr.out (by omega)
        obtain ⟨b', o', rfl, hbl'⟩ := Hptr'.out (by omega)
        obtain ⟨x, hx⟩ : ∃ x, l[j]? = some x := ⟨_, List.getElem?_eq_getElem (by rw [Hlen.out]; exact hlt)⟩
        obtain ⟨y, hy⟩ : ∃ y, l'[j]? = some y := ⟨_, List.getElem?_eq_getElem (by rw [Hlen'.out]; exact hlt)⟩
        obtain ⟨c0, c1, c2⟩ := prs_cells HS.out hx
        obtain ⟨d0, d1, d2⟩ := prs_cells HS'.out hy
        have hne := neq_pr (B x.table) (B x.key) (B x.value) (B y.table) (B y.key) (B y.value)
        have Hs : Hid (l = l' → (!(((B x.table).toList == (B y.table).toList) && (((B x.key).toList == (B y.key).toList) && ((B x.value).toList == (B y.value).toList)))) = false) := Lib.hid fun e => pr_same x y (by rw [e, hy] at hx; exact (Option.some.inj hx).symm)
        clear hx hy
        generalize (!(((B x.table).toList == (B y.table).toList) && (((B x.key).toList == (B y.key).toList) && ((B x.value).toList == (B y.value).toList)))) = t at *
        generalize B x.table = n1 at *
        generalize B y.table = n2 at *
        generalize B x.key = x1 at *
        generalize B y.key = x2 at *
        generalize B x.value = u1 at *
        generalize B y.value = u2 at *
        replace c0 : (w.drewN q).cell? ⟨b, o + j * 3, none⟩ = some (.string n1) := c0
        replace c1 : (w.drewN q).cell? ⟨b, o + j * 3 + 1, none⟩ = some (.string x1) := c1
        replace c2 : (w.drewN q).cell? ⟨b, o + j * 3 + 2, none⟩ = some (.string u1) := c2
        replace d0 : (w.drewN q).cell? ⟨b', o' + j * 3, none⟩ = some (.string n2) := d0
        replace d1 : (w.drewN q).cell? ⟨b', o' + j * 3 + 1, none⟩ = some (.string x2) := d1
        replace d2 : (w.drewN q).cell? ⟨b', o' + j * 3 + 2, none⟩ = some (.string u2) := d2
        generalize hq : w.drewN q = wr at *
        have Hq := Lib.hid hq
        clear hq
        cases t with
        | false =>
          go_wp2_with fail
          go_quiet (fail)
          go_wp2_with fail
          go_roundw
          case rel => exact ⟨j + 1, _, by omega, by go_num, by rw [← Hq.out, World.drewN_drewN]⟩
          case measure => simp [intOf]; omega
        | true =>
          go_wp2_with fail
          go_quiet (fail)
          go_wp2_with fail
          go_ret
          exact ⟨false, rfl, fun e => absurd (Hs.out e) (by simp), _, by rw [← Hq.out, World.drewN_drewN]⟩
      · obtain rfl : j = m := by omega
        go_wp2_with fail
        go_ret
        exact ⟨true, rfl, fun _ => rfl, q, rfl⟩
  · have hmm' : ((m : Int) != (m' : Int)) = true := by simp; omega
    have hne : l ≠ l' := by rintro rfl; exact hmm (by rw [← Hlen.out, ← Hlen'.out])
    have Hne := Lib.hid hne
    clear hmm hne
    go_enter Tryz.func37, Tryz.ntmps37
    go_wp2_with fail
    go_ret
    exact ⟨false, rfl, fun e => absurd e Hne.out, 0, rfl⟩
end Go.Proofs.YthjcifokmcbaoaaGreatDoor.st
/- law 16: awake returns true. Condition: the listed variables hold what the program's text lays. -/
namespace Go.Proofs.YthjcifokmcbaoaaGreatDoor.st
open Go.ChangeShapes Go.WideShapes Go.ChangeAt Go.RowKit gl ls

def awL : List Pr := [⟨[97], [107], [49]⟩, ⟨[98], [107], [50]⟩]
def awS1 : Sp := ⟨6, [98], [107], [106], []⟩
def awS2 : Sp := ⟨4, [97], [], [98], []⟩
def awS3 : Sp := ⟨5, [98], [], [], [100, 111, 117, 98, 108, 101]⟩
def awR1 : List Pr := [⟨[97], [107], [49]⟩, ⟨[98], [106], [50]⟩, ⟨[98], [107], [50]⟩]
def awR3 : List Pr := [⟨[97], [107], [49]⟩, ⟨[98], [107], [52]⟩]
theorem aw1 : applyL awL awS1 = (awR1, 0) := by kernel_rfl
theorem aw2 : applyL awL awS2 = ([], 161) := by kernel_rfl
theorem aw3 : applyL awL awS3 = (awR3, 0) := by kernel_rfl
theorem aw4 : callL [116, 114, 105, 109] [32, 97, 32, 98, 32] = ([97, 32, 98], 0) := by kernel_rfl
theorem aw5 : callL [85, 112, 112, 101, 114] [97] = ([], 160) := by kernel_rfl
theorem aw6 : rightL ⟨2, [97], [], [], []⟩ = true := by kernel_rfl
theorem aw7 : rightL ⟨2, [97], [], [], [120]⟩ = false := by kernel_rfl
theorem awSz : ∀ x ∈ awL, PrSz x := by
  intro x hx
  simp only [awL, List.mem_cons, List.not_mem_nil, or_false] at hx
  rcases hx with rfl | rfl <;> exact ⟨by decide, by decide, by decide⟩
theorem aw_prs {w wA : World} (hA : wA = w.alloc (.cells #[.string ⟨#[97]⟩, .string ⟨#[107]⟩, .string ⟨#[49]⟩, .string ⟨#[98]⟩, .string ⟨#[107]⟩, .string ⟨#[50]⟩] 57)) : Prs wA (.slice (some ⟨w.heap.size, 0, none⟩) 2 2) awL := by
  have h2 := heap_alloc_new w (.cells #[.string ⟨#[97]⟩, .string ⟨#[107]⟩, .string ⟨#[49]⟩, .string ⟨#[98]⟩, .string ⟨#[107]⟩, .string ⟨#[50]⟩] 57)
  rw [← hA] at h2
  exact rw.rw_lit prC_len (l := awL) h2 rfl
set_option maxHeartbeats 4000000 in
set_option maxRecDepth 100000 in
theorem awake_any (w : World) (hS : Slo w) : Calls Tryz.prog 26 #[] w fun e w' => e = .returned (.bool true) ∧ Below w.heap.size w w' := by
  obtain ⟨wA, hA⟩ : ∃ wA, wA = w.alloc (.cells #[.string ⟨#[97]⟩, .string ⟨#[107]⟩, .string ⟨#[49]⟩, .string ⟨#[98]⟩, .string ⟨#[107]⟩, .string ⟨#[50]⟩] 57) := ⟨_, rfl⟩
  have hP := aw_prs hA
  have hbA : Below w.heap.size w wA := by rw [hA]; exact (Below.refl _ _).alloc (Nat.le_refl _) _
  have HSl := Lib.hid fun (W : World) (hb : Below wA.heap.size wA W) => (hS.later hbA).later hb
  have H1 := Lib.hid fun (W : World) (hb : Below wA.heap.size wA W) => Apply_any _ 2 2 awL awS1 (by omega) awSz ⟨by decide, by decide, by decide, by decide⟩ W (HSl.out W hb) (hP.later hb)
  have H2 := Lib.hid fun (W : World) (hb : Below wA.heap.size wA W) => Apply_any _ 2 2 awL awS2 (by omega) awSz ⟨by decide, by decide, by decide, by decide⟩ W (HSl.out W hb) (hP.later hb)
  have H3 := Lib.hid fun (W : World) (hb : Below wA.heap.size wA W) => Apply_any _ 2 2 awL awS3 (by omega) awSz ⟨by decide, by decide, by decide, by decide⟩ W (HSl.out W hb) (hP.later hb)
  have H4 := Lib.hid fun (W : World) (hb : Below wA.heap.size wA W) => Call_any (B [116, 114, 105, 109]) (B [32, 97, 32, 98, 32]) W (HSl.out W hb)
  have H5 := Lib.hid fun (W : World) (hb : Below wA.heap.size wA W) => Call_any (B [85, 112, 112, 101, 114]) (B [97]) W (HSl.out W hb)
  have H6 := Lib.hid fun (W : World) (hb : Below wA.heap.size wA W) => right_sp ⟨2, [97], [], [], []⟩ ⟨by decide, by decide, by decide, by decide⟩ W (HSl.out W hb)
  have H7 := Lib.hid fun (W : World) (hb : Below wA.heap.size wA W) => right_sp ⟨2, [97], [], [], [120]⟩ ⟨by decide, by decide, by decide, by decide⟩ W (HSl.out W hb)
  rw [aw1] at H1
  rw [aw2] at H2
  rw [aw3] at H3
  simp only [B_list, aw4, callV] at H4
  simp only [B_list, aw5, callV] at H5
  rw [aw6] at H6
  rw [aw7] at H7
  have HA := Lib.hid hA
  have HbA := Lib.hid hbA
  have Q1 : Hid (∀ W : World, (binOp .eql 57 (.agg #[.string ⟨#[98]⟩, .string ⟨#[106]⟩, .string ⟨#[50]⟩]) (.agg #[.string ⟨#[98]⟩, .string ⟨#[106]⟩, .string ⟨#[50]⟩])).run Tryz.prog W = .ok (.bool true) W) := Lib.hid fun W => by rw [eql_pr]; simp
  clear hA hbA hP hS
  go_enter Tryz.func26, Tryz.ntmps26
  go_wp2_with fail
  rw [← HA.out]
  refine (H1.out _ (Below.refl _ _)).mono ?_
  rintro e w1 ⟨⟨v1, rfl, h1⟩, hb1⟩
  obtain ⟨p1, c1, hv1⟩ := h1.form
  change v1 = .slice p1 3 c1 at hv1
  subst hv1
  obtain ⟨b1, o1, rfl, _⟩ := (h1.rw prC_len).ptr.2.2 (by omega)
  have HP1 := Lib.hid (h1.rw prC_len)
  have HB1 := Lib.hid hb1
  clear h1 hb1
  go_wp2_with fail
  refine (H2.out _ HB1.out).mono ?_
  rintro e w2 ⟨⟨v2, rfl, h2⟩, hb2⟩
  obtain ⟨p2, c2, hv2⟩ := h2.form
  change v2 = .slice p2 0 c2 at hv2
  subst hv2
  have HB2 := Lib.hid (then_bel HB1.out hb2)
  have HP12 := Lib.hid (HP1.out.later hb2)
  clear h2 hb2 HP1
  go_wp2_with fail
  refine (H3.out _ HB2.out).mono ?_
  rintro e w3 ⟨⟨v3, rfl, h3⟩, hb3⟩
  obtain ⟨p3, c3, hv3⟩ := h3.form
  change v3 = .slice p3 2 c3 at hv3
  subst hv3
  obtain ⟨b3, o3, rfl, _⟩ := (h3.rw prC_len).ptr.2.2 (by omega)
  have HP3 := Lib.hid (h3.rw prC_len)
  have HB3 := Lib.hid (then_bel HB2.out hb3)
  have HP13 := Lib.hid (HP12.out.later hb3)
  clear h3 hb3 HP12
  go_wp2_with fail
  refine (H4.out _ HB3.out).mono ?_
  rintro e w4 ⟨rfl, hb4⟩
  have HB4 := Lib.hid (then_bel HB3.out hb4)
  have HD4 := Lib.hid hb4
  clear hb4
  go_wp2_with fail
  refine (H5.out _ HB4.out).mono ?_
  rintro e w5 ⟨rfl, hb5⟩
  have HB5 := Lib.hid (then_bel HB4.out hb5)
  have HD5 := Lib.hid (then_bel HD4.out hb5)
  clear hb5
  go_wp2_with fail
  refine (H6.out _ HB5.out).mono ?_
  rintro e w6 ⟨rfl, hb6⟩
  have HB6 := Lib.hid (then_bel HB5.out hb6)
  have HD6 := Lib.hid (then_bel HD5.out hb6)
  clear hb6
  go_wp2_with fail
  refine (H7.out _ HB6.out).mono ?_
  rintro e w7 ⟨rfl, hb7⟩
  have HB7 := Lib.hid (then_bel HB6.out hb7)
  have hd7 := then_bel HD6.out hb7
  obtain ⟨e0, e1, e2⟩ := prs_cells (HP13.out.later hd7) (j := 1) rfl
  obtain ⟨_, _, f2⟩ := prs_cells (HP3.out.later hd7) (j := 1) rfl
  simp only at e0 e1 e2 f2
  have q1 := Q1.out
  clear hb7 hd7
  go_wp2_with fail
  go_ret
  exact ⟨rfl, HbA.out.trans (HB7.out.mono HbA.out.size)⟩
end Go.Proofs.YthjcifokmcbaoaaGreatDoor.st
/- StepRights returns true. Conditions: at most 9223372036854775807 steps; the listed variables hold what the program's text lays. -/
namespace Go.Proofs.YthjcifokmcbaoaaGreatDoor.st
open Go.ChangeShapes Go.WideShapes Go.ChangeAt Go.RowKit gl ls

theorem f5_drew {w0 wp : World} {b o : Nat} {x0 x1 x2 x3 x4 : Value} (h : wp.cell? ⟨b, o, none⟩ = some x0 ∧ wp.cell? ⟨b, o + 1, none⟩ = some x1 ∧ wp.cell? ⟨b, o + 2, none⟩ = some x2 ∧ wp.cell? ⟨b, o + 3, none⟩ = some x3 ∧ wp.cell? ⟨b, o + 4, none⟩ = some x4 ∧ Hid (Below w0.heap.size w0 wp)) :
    wp.drew.cell? ⟨b, o, none⟩ = some x0 ∧ wp.drew.cell? ⟨b, o + 1, none⟩ = some x1 ∧ wp.drew.cell? ⟨b, o + 2, none⟩ = some x2 ∧ wp.drew.cell? ⟨b, o + 3, none⟩ = some x3 ∧ wp.drew.cell? ⟨b, o + 4, none⟩ = some x4 ∧ Hid (Below w0.heap.size w0 wp.drew) := ⟨h.1, h.2.1, h.2.2.1, h.2.2.2.1, h.2.2.2.2.1, Lib.hid h.2.2.2.2.2.out.drew⟩
theorem f5_of {w0 w' : World} {b o : Nat} {x0 x1 x2 x3 x4 : Value} (h0 : w0.cell? ⟨b, o, none⟩ = some x0) (h1 : w0.cell? ⟨b, o + 1, none⟩ = some x1) (h2 : w0.cell? ⟨b, o + 2, none⟩ = some x2) (h3 : w0.cell? ⟨b, o + 3, none⟩ = some x3) (h4 : w0.cell? ⟨b, o + 4, none⟩ = some x4) (hb : Below w0.heap.size w0 w') :
    w'.cell? ⟨b, o, none⟩ = some x0 ∧ w'.cell? ⟨b, o + 1, none⟩ = some x1 ∧ w'.cell? ⟨b, o + 2, none⟩ = some x2 ∧ w'.cell? ⟨b, o + 3, none⟩ = some x3 ∧ w'.cell? ⟨b, o + 4, none⟩ = some x4 ∧ Hid (Below w0.heap.size w0 w') :=
  ⟨cell_then h0 hb, cell_then h1 hb, cell_then h2 hb, cell_then h3 hb, cell_then h4 hb, Lib.hid hb⟩
theorem f5_bel {w0 wp : World} {b o : Nat} {x0 x1 x2 x3 x4 : Value} (h : wp.cell? ⟨b, o, none⟩ = some x0 ∧ wp.cell? ⟨b, o + 1, none⟩ = some x1 ∧ wp.cell? ⟨b, o + 2, none⟩ = some x2 ∧ wp.cell? ⟨b, o + 3, none⟩ = some x3 ∧ wp.cell? ⟨b, o + 4, none⟩ = some x4 ∧ Hid (Below w0.heap.size w0 wp)) : Hid (Below w0.heap.size w0 wp) := h.2.2.2.2.2
set_option maxHeartbeats 4000000 in
set_option maxRecDepth 100000 in
theorem stepRights_any (p : Option Addr) (c : Nat) (l : List Sp) (hm : l.length ≤ 9223372036854775807) (w : World) (h : Sps w (.slice p l.length c) l) (hS : Slo w) :
    Calls Tryz.prog 4 #[.slice p l.length c] w fun e w' => e = .returned (.bool true) ∧ Below w.heap.size w w' := by
  obtain ⟨_, hmc, hptr⟩ := h.ptr
  have HW := Lib.hid (stepsWeigh_any p l.length c l hm w h)
  have HAw := Lib.hid fun (W : World) (hb : Below w.heap.size w W) => awake_any W (hS.later hb)
  have HR := Lib.hid fun (s : Sp) (hs : SpSz s) (W : World) (hb : Below w.heap.size w W) => right_sp s hs W (hS.later hb)
  have HR2 := Lib.hid fun (s : Sp) (hs : SpSz s) (W : World) => right_ref s hs W
  unfold spA at HR HR2
  have HL := Lib.hid h
  have HP := Lib.hid hptr
  obtain ⟨m, hlen⟩ : ∃ m, m = l.length := ⟨_, rfl⟩
  rw [← hlen] at hm hmc HW HL HP ⊢
  have Hlen := Lib.hid hlen
  clear h hptr hlen hS
  go_enter Tryz.func4, Tryz.ntmps4
  go_wp2_with fail
  refine HW.out.mono ?_
  rintro e w1 ⟨⟨N, rfl, hN⟩, hb1⟩
  have HB1 := Lib.hid hb1
  have HN := Lib.hid hN
  clear hb1 hN
  by_cases hbig : 2147483647 < N
  · have q1 : decide (2147483647 < N) = true := by rw [decide_eq_true_iff]; exact hbig
    go_wp2_with fail
    go_ret
    exact ⟨rfl, HB1.out⟩
  · have q1 : decide (2147483647 < N) = false := by rw [decide_eq_false_iff_not]; exact hbig
    have HZ := Lib.hid (HN.out.2.2 (by omega)).2
    go_wp2_with fail
    refine (HAw.out _ HB1.out).mono ?_
    rintro e w2 ⟨rfl, hb2⟩
    have HB2 := Lib.hid (then_bel HB1.out hb2)
    clear hb2
    go_wp2_with fail
    go_loopw [4] (fun i wr => ∃ k : Nat, k ≤ m ∧ i = .int .i64 k ∧ Hid (Below w.heap.size w wr)) (fun i _ => m - (intOf i).toNat)
    case atStart => exact ⟨0, by omega, rfl, HB2⟩
    case round =>
      obtain ⟨k, hk, rfl, Hb⟩ := hrel
      by_cases hlt : k < m
      · obtain ⟨b, o, rfl, hbl⟩ := HP.out (by omega)
        obtain ⟨x, hx⟩ : ∃ x, l[k]? = some x := ⟨_, List.getElem?_eq_getElem (by rw [← Hlen.out]; exact hlt)⟩
        obtain ⟨e0, e1, e2, e3, e4⟩ := sps_cells (HL.out.later Hb.out) hx
        have hki : (k : Int) < (m : Int) := by omega
        have hk5 : (0 : Int) ≤ (k : Int) := by omega
        have HQ := Lib.hid (HR.out x (HZ.out x (List.mem_of_getElem? hx)))
        have HQ2 := Lib.hid (HR2.out x (HZ.out x (List.mem_of_getElem? hx)))
        clear hx
        generalize rightL x = r at *
        generalize B x.table = y1 at *
        generalize B x.key = y2 at *
        generalize B x.to = y3 at *
        generalize B x.text = y4 at *
        have HQ' := Lib.hid fun (W : World) (hb : Hid (Below wr.heap.size wr W)) => HQ.out W (Hb.out.trans (hb.out.mono Hb.out.size))
        have hSt := f5_of e0 e1 e2 e3 e4 (Below.refl _ wr)
        have qr : (r != r) = false := by simp
        go_wp2_with fail
        go_region_held3 (fun w' => w'.cell? ⟨b, o + k * 5, none⟩ = some (.int .i64 x.kind) ∧ w'.cell? ⟨b, o + k * 5 + 1, none⟩ = some (.string y1) ∧ w'.cell? ⟨b, o + k * 5 + 2, none⟩ = some (.string y2) ∧ w'.cell? ⟨b, o + k * 5 + 3, none⟩ = some (.string y3) ∧ w'.cell? ⟨b, o + k * 5 + 4, none⟩ = some (.string y4) ∧ Hid (Below wr.heap.size wr w'))
          (first | assumption | (with_reducible exact f5_drew (by assumption)))
          (first
            | ((go_at_call 27; (with_reducible refine Calls.mono (HQ'.out _ (f5_bel (by assumption))) ?_); rintro e w' ⟨rfl, hb⟩; have hS' := f5_of e0 e1 e2 e3 e4 (then_bel (f5_bel (by assumption)).out hb); clear hb))
            | ((go_at_call 28; (with_reducible refine Calls.mono (HQ2.out _) ?_); rintro e w' ⟨rfl, hb⟩; have hS' := f5_of e0 e1 e2 e3 e4 (then_bel (f5_bel (by assumption)).out hb); clear hb)))
        all_goals
          rename_i hH
          have hbH := Lib.hid hH.2.2.2.2.2.out
          clear hH hSt e0 e1 e2 e3 e4
          go_wp2_with fail
          go_roundw
          case rel => exact ⟨k + 1, by omega, by go_num, Lib.hid (Hb.out.trans (hbH.out.mono Hb.out.size))⟩
          case measure => simp [intOf]; omega
      · obtain rfl : k = m := by omega
        go_wp2_with fail
        go_ret
        exact ⟨rfl, Hb.out⟩
end Go.Proofs.YthjcifokmcbaoaaGreatDoor.st
