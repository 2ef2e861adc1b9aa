/- Laws and contracts on which the statement rests, part I: each text says what it proves, and its conditions. -/
import Derived.Test.YthjcifokmcbaoaaGreatDoorMgH
import Derived.Laws.StructEq
import Derived.Deep.QuietTactic
import Derived.BigQuiet
import Derived.Test.YthjcifokmcbaoaaGreatDoorMgC
import Derived.Test.YthjcifokmcbaoaaGreatDoorMgG
import Derived.Laws.MakeOwn
import Derived.Deep.DeepCutAuto
import Derived.Deep.Slices
import Derived.Deep.Fields
import Derived.ChangeSame
import Derived.Carry
import Derived.Test.YthjcifokmcbaoaaGreatDoorMgB
import Derived.Lib.SmallJoins
import Derived.Deep.Strs
import Derived.ChangeSlices
/- law 18: texts, pick, same, moves; the tables that are told. Conditions: lists of at most 4294967295 elements. -/
namespace Go.Proofs.YthjcifokmcbaoaaGreatDoor.st
open Go.ChangeShapes Go.WideShapes Go.ChangeAt Go.RowKit gl ls

set_option maxHeartbeats 2000000 in
set_option maxRecDepth 100000 in
theorem texts18_any (p p' : Option Addr) (m m' c c' : Nat) (l l' : List (List UInt8)) (hl : m ≤ 4294967295) (hl' : m' ≤ 4294967295) (w : World) (h : Txt w (.slice p m c) l) (h' : Txt w (.slice p' m' c') l') :
    Calls Tryz.prog 20 #[.slice p m c, .slice p' m' c'] w fun e w' => ∃ r : Bool, e = .returned (.bool r) ∧ (l = l' → r = true) ∧ ∃ q, w' = w.drewN q := by
  obtain ⟨hlen, hmc, hptr⟩ := h.ptr
  obtain ⟨hlen', hmc', hptr'⟩ := h'.ptr
  have HS := Lib.hid h
  have HS' := Lib.hid h'
  have Hlen := Lib.hid hlen
  have Hlen' := Lib.hid hlen'
  have Hptr := Lib.hid hptr
  have Hptr' := Lib.hid hptr'
  clear h h' hlen hlen' hptr hptr'
  by_cases hmm : m = m'
  · subst hmm
    go_enter Tryz.func20, Tryz.ntmps20
    go_wp2_with fail
    go_loopw [5] (fun i wr => ∃ j q : Nat, j ≤ m ∧ i = .int .i64 j ∧ wr = w.drewN q) (fun i _ => m - (intOf i).toNat)
    case atStart => exact ⟨0, 0, by omega, rfl, rfl⟩
    case round =>
      obtain ⟨j, q, hj, rfl, rfl⟩ := hrel
      by_cases hlt : j < m
      · obtain ⟨b, o, rfl, hbl⟩ := Hptr.out (by omega)
        obtain ⟨b', o', rfl, hbl'⟩ := Hptr'.out (by omega)
        obtain ⟨x, hx⟩ : ∃ x, l[j]? = some x := ⟨_, List.getElem?_eq_getElem (by rw [Hlen.out]; exact hlt)⟩
        obtain ⟨y, hy⟩ : ∃ y, l'[j]? = some y := ⟨_, List.getElem?_eq_getElem (by rw [Hlen'.out]; exact hlt)⟩
        have c0 := txt_cell HS.out hx
        have d0 := txt_cell HS'.out hy
        have Hs : Hid (l = l' → (!((B x).toList == (B y).toList)) = false) := Lib.hid fun e => by rw [e, hy] at hx; obtain rfl := Option.some.inj hx; simp
        clear hx hy
        have hk1 : (j : Int) < (m : Int) := by omega
        have hk5 : (0 : Int) ≤ (j : Int) := by omega
        cases ht : ((B x).toList == (B y).toList) with
        | true =>
          generalize B x = n1 at *
          generalize B y = n2 at *
          replace c0 : (w.drewN q).cell? ⟨b, o + j, none⟩ = some (.string n1) := c0
          replace d0 : (w.drewN q).cell? ⟨b', o' + j, none⟩ = some (.string n2) := d0
          generalize hq : w.drewN q = wr at *
          have Hq := Lib.hid hq
          clear hq
          go_wp2_with fail
          go_quiet (fail)
          go_wp2_with fail
          go_roundw
          case rel => exact ⟨j + 1, _, by omega, by go_num, by rw [← Hq.out, World.drewN_drewN]⟩
          case measure => simp [intOf]; omega
        | false =>
          rw [ht] at Hs
          generalize B x = n1 at *
          generalize B y = n2 at *
          replace c0 : (w.drewN q).cell? ⟨b, o + j, none⟩ = some (.string n1) := c0
          replace d0 : (w.drewN q).cell? ⟨b', o' + j, none⟩ = some (.string n2) := d0
          generalize hq : w.drewN q = wr at *
          have Hq := Lib.hid hq
          clear hq
          go_wp2_with fail
          go_quiet (fail)
          go_wp2_with fail
          go_ret
          exact ⟨false, rfl, fun e => absurd (Hs.out e) (by simp), _, by rw [← Hq.out, World.drewN_drewN]⟩
      · obtain rfl : j = m := by omega
        go_wp2_with fail
        go_ret
        exact ⟨true, rfl, fun _ => rfl, q, rfl⟩
  · have hmm' : ((m : Int) != (m' : Int)) = true := by simp; omega
    have hne : l ≠ l' := by rintro rfl; exact hmm (by rw [← Hlen.out, ← Hlen'.out])
    have Hne := Lib.hid hne
    clear hmm hne
    go_enter Tryz.func20, Tryz.ntmps20
    go_wp2_with fail
    go_ret
    exact ⟨false, rfl, fun e => absurd e Hne.out, 0, rfl⟩

theorem pick18_any (c n : Int) (hn : 0 < n) (hn2 : n ≤ 2147483647) (h1 : -9223372036854775808 ≤ c) (h2 : c ≤ 9223372036854775807) (w : World) :
    Calls Tryz.prog 16 #[.int .i64 c, .int .i64 n] w fun e w' => (∃ r : Int, e = .returned (.int .i64 r) ∧ 0 ≤ r ∧ r < n) ∧ w' = w := by
  by_cases h : c < 0
  · have k0 : 0 ≤ (-(c + 1)).tmod n := Int.tmod_nonneg _ (by omega)
    have k1 : (-(c + 1)).tmod n < n := Int.tmod_lt_of_pos _ hn
    go_enter Tryz.func16, Tryz.ntmps16
    go_wp2_with fail
    go_ret
    rw [Int.neg_tmod] at k0 k1
    exact ⟨⟨_, rfl, k0, k1⟩, rfl⟩
  · have k0 : 0 ≤ c % n := Int.emod_nonneg _ (by omega)
    have k1 : c % n < n := Int.emod_lt_of_pos _ hn
    go_enter Tryz.func16, Tryz.ntmps16
    go_wp2_with fail
    go_ret
    exact ⟨⟨_, rfl, k0, k1⟩, rfl⟩
def tabL : List (List UInt8) := [[101, 118, 101, 110, 116, 115], [109, 101, 116, 97], [117, 115, 101, 114, 115]]
theorem tables_any (w : World) : Calls Tryz.prog 18 #[] w fun e w' => (∃ v, e = .returned v ∧ NewTx w.heap.size w' v tabL) ∧ Below w.heap.size w w' := by
  obtain ⟨W, hW⟩ : ∃ W, W = w.alloc (.cells #[.string ⟨#[101, 118, 101, 110, 116, 115]⟩, .string ⟨#[109, 101, 116, 97]⟩, .string ⟨#[117, 115, 101, 114, 115]⟩] 9) := ⟨_, rfl⟩
  have hb : Below w.heap.size w W := by rw [hW]; exact (Below.refl _ _).alloc (Nat.le_refl _) _
  have h0 : W.heap[w.heap.size]? = some (.cells #[.string ⟨#[101, 118, 101, 110, 116, 115]⟩, .string ⟨#[109, 101, 116, 97]⟩, .string ⟨#[117, 115, 101, 114, 115]⟩] 9 (0, 0)) := by rw [hW]; exact heap_alloc_new w _
  have HN : Hid (NewTx w.heap.size W (.slice (some ⟨w.heap.size, 0, none⟩) 3 3) tabL) := Lib.hid (new_lit txC_len (l := tabL) (Nat.le_refl _) h0 rfl)
  have HB := Lib.hid hb
  have HW := Lib.hid hW
  clear hb h0 hW
  go_enter Tryz.func18, Tryz.ntmps18
  go_wp2_with fail
  go_ret
  rw [← HW.out]
  exact ⟨⟨_, rfl, HN.out⟩, HB.out⟩
theorem refTables_any (w : World) : Calls Tryz.prog 15 #[] w fun e w' => (∃ v, e = .returned v ∧ NewTx w.heap.size w' v tabL) ∧ Below w.heap.size w w' := by
  obtain ⟨W, hW⟩ : ∃ W, W = w.alloc (.cells #[.string ⟨#[101, 118, 101, 110, 116, 115]⟩, .string ⟨#[109, 101, 116, 97]⟩, .string ⟨#[117, 115, 101, 114, 115]⟩] 9) := ⟨_, rfl⟩
  have hb : Below w.heap.size w W := by rw [hW]; exact (Below.refl _ _).alloc (Nat.le_refl _) _
  have h0 : W.heap[w.heap.size]? = some (.cells #[.string ⟨#[101, 118, 101, 110, 116, 115]⟩, .string ⟨#[109, 101, 116, 97]⟩, .string ⟨#[117, 115, 101, 114, 115]⟩] 9 (0, 0)) := by rw [hW]; exact heap_alloc_new w _
  have HN : Hid (NewTx w.heap.size W (.slice (some ⟨w.heap.size, 0, none⟩) 3 3) tabL) := Lib.hid (new_lit txC_len (l := tabL) (Nat.le_refl _) h0 rfl)
  have HB := Lib.hid hb
  have HW := Lib.hid hW
  clear hb h0 hW
  go_enter Tryz.func15, Tryz.ntmps15
  go_wp2_with fail
  go_ret
  rw [← HW.out]
  exact ⟨⟨_, rfl, HN.out⟩, HB.out⟩
theorem spFields : (Tryz.prog.fieldsOf 42).toList.map (fun f => (decide (f.name ≠ "_"), f.type, f.offset)) = [(true, 3, 0), (true, 9, 1), (true, 9, 2), (true, 9, 3), (true, 9, 4)] := by kernel_rfl
theorem five_fields {l : List Field} {t0 t1 t2 t3 t4 : TypeId} (h : l.map (fun f => (decide (f.name ≠ "_"), f.type, f.offset)) = [(true, t0, 0), (true, t1, 1), (true, t2, 2), (true, t3, 3), (true, t4, 4)]) :
    ∃ f0 f1 f2 f3 f4 : Field, l = [f0, f1, f2, f3, f4] ∧ (f0.name ≠ "_" ∧ f0.type = t0 ∧ f0.offset = 0) ∧ (f1.name ≠ "_" ∧ f1.type = t1 ∧ f1.offset = 1) ∧ (f2.name ≠ "_" ∧ f2.type = t2 ∧ f2.offset = 2) ∧ (f3.name ≠ "_" ∧ f3.type = t3 ∧ f3.offset = 3) ∧ (f4.name ≠ "_" ∧ f4.type = t4 ∧ f4.offset = 4) := by
  obtain ⟨f0, r0, rfl, h0, h⟩ := List.map_eq_cons_iff.1 h
  obtain ⟨f1, r1, rfl, h1, h⟩ := List.map_eq_cons_iff.1 h
  obtain ⟨f2, r2, rfl, h2, h⟩ := List.map_eq_cons_iff.1 h
  obtain ⟨f3, r3, rfl, h3, h⟩ := List.map_eq_cons_iff.1 h
  obtain ⟨f4, r4, rfl, h4, h⟩ := List.map_eq_cons_iff.1 h
  obtain rfl := List.map_eq_nil_iff.1 h
  simp only [Prod.mk.injEq, decide_eq_true_eq] at h0 h1 h2 h3 h4
  exact ⟨f0, f1, f2, f3, f4, rfl, h0, h1, h2, h3, h4⟩
set_option maxRecDepth 100000 in
theorem neq_sp_same (k : Int) (a b c d : ByteArray) (w : World) :
    (binOp .neq 42 (.agg #[.int .i64 k, .string a, .string b, .string c, .string d]) (.agg #[.int .i64 k, .string a, .string b, .string c, .string d])).run Tryz.prog w = .ok (.bool false) w := by
  have hs : Tryz.prog.underlying 9 = some .string := Tryz.underlying9
  have hi : Tryz.prog.underlying 3 = some (.int .i64) := Tryz.underlying3
  have hc : Tryz.prog.cellsOf 9 = 1 := by kernel_rfl
  have hci : Tryz.prog.cellsOf 3 = 1 := by kernel_rfl
  obtain ⟨f0, f1, f2, f3, f4, hf, ⟨n0, t0, o0⟩, ⟨n1, t1, o1⟩, ⟨n2, t2, o2⟩, ⟨n3, t3, o3⟩, ⟨n4, t4, o4⟩⟩ := five_fields spFields
  rw [run_neq_struct, run_equalIn_struct w 9999 42 _ _ Tryz.underlying42 (by kernel_rfl), hf]
  simp only [Op.eqFields, n0, n1, n2, n3, n4, t0, t1, t2, t3, t4, o0, o1, o2, o3, o4, ne_eq, not_false_eq_true, if_true]
  simp [go_sem, part, hs, hi]
end Go.Proofs.YthjcifokmcbaoaaGreatDoor.st
/- law 18: same, moves: of moves that are alike. Conditions: lists of at most 4294967295 elements. -/
namespace Go.Proofs.YthjcifokmcbaoaaGreatDoor.st
open Go.ChangeShapes Go.WideShapes Go.ChangeAt Go.RowKit gl ls

theorem texts18_same (p p' : Option Addr) (m c c' : Nat) (l : List (List UInt8)) (hl : m ≤ 4294967295) (w : World) (h : Txt w (.slice p m c) l) (h' : Txt w (.slice p' m c') l) :
    Calls Tryz.prog 20 #[.slice p m c, .slice p' m c'] w fun e w' => e = .returned (.bool true) ∧ ∃ q, w' = w.drewN q :=
  (texts18_any p p' m m c c' l l hl hl w h h').mono fun e w' ⟨r, h1, h2, h3⟩ => ⟨by rw [h1, h2 rfl], h3⟩
set_option maxHeartbeats 4000000 in
set_option maxRecDepth 100000 in
theorem same18_any (i : ByteArray) (pn pn' ps ps' : Option Addr) (nn cn cn' ns cs cs' : Nat) (tx : List (List UInt8)) (st : List Sp) (hn : nn ≤ 4294967295) (hs : ns ≤ 4294967295) (w : World) (h1 : Txt w (.slice pn nn cn) tx) (h1' : Txt w (.slice pn' nn cn') tx) (h2 : Sps w (.slice ps ns cs) st) (h2' : Sps w (.slice ps' ns cs') st) :
    Calls Tryz.prog 61 #[.agg #[.string i, .slice pn nn cn, .slice ps ns cs], .agg #[.string i, .slice pn' nn cn', .slice ps' ns cs']] w fun e w' => e = .returned (.bool true) ∧ Below w.heap.size w w' := by
  obtain ⟨wA, hA⟩ : ∃ wA, wA = w.alloc (.cells #[.string i, .slice pn nn cn, .slice ps ns cs] 36) := ⟨_, rfl⟩
  obtain ⟨wB, hB⟩ : ∃ wB, wB = wA.alloc (.cells #[.string i, .slice pn' nn cn', .slice ps' ns cs'] 36) := ⟨_, rfl⟩
  have zA : wA.heap.size = w.heap.size + 1 := by rw [hA]; simp
  have kA : wA.heap[w.heap.size]? = some (.cells #[.string i, .slice pn nn cn, .slice ps ns cs] 36 (0, 0)) := by rw [hA]; exact heap_alloc_new w _
  have kB : wB.heap[w.heap.size + 1]? = some (.cells #[.string i, .slice pn' nn cn', .slice ps' ns cs'] 36 (0, 0)) := by rw [hB, ← zA]; exact heap_alloc_new wA _
  have kA' : wB.heap[w.heap.size]? = some (.cells #[.string i, .slice pn nn cn, .slice ps ns cs] 36 (0, 0)) := by rw [hB]; exact heap_al kA _
  have hbA : Below w.heap.size w wA := by rw [hA]; exact (Below.refl _ _).alloc (Nat.le_refl _) _
  have hbB : Below w.heap.size w wB := by rw [hB]; exact hbA.alloc (by omega) _
  have zB : wB.heap.size = w.heap.size + 2 := by rw [hB]; simp [zA]
  have c0 : wB.cell? ⟨w.heap.size, 0, none⟩ = some (.string i) := cell_in kA'
  have c1 : wB.cell? ⟨w.heap.size, 1, none⟩ = some (.slice pn nn cn) := cell_in kA'
  have c2 : wB.cell? ⟨w.heap.size, 2, none⟩ = some (.slice ps ns cs) := cell_in kA'
  have d0 : wB.cell? ⟨w.heap.size + 1, 0, none⟩ = some (.string i) := cell_in kB
  have d1 : wB.cell? ⟨w.heap.size + 1, 1, none⟩ = some (.slice pn' nn cn') := cell_in kB
  have d2 : wB.cell? ⟨w.heap.size + 1, 2, none⟩ = some (.slice ps' ns cs') := cell_in kB
  have HT := Lib.hid (texts18_same pn pn' nn cn cn' tx hn wB (h1.later hbB) (h1'.later hbB))
  have HS := Lib.hid (h2.later hbB)
  have HS' := Lib.hid (h2'.later hbB)
  have Hptr := Lib.hid (h2.later hbB).ptr
  have Hptr' := Lib.hid (h2'.later hbB).ptr
  have HbB := Lib.hid hbB
  have HA := Lib.hid hA
  have HB := Lib.hid hB
  have hid' : (i.toList != i.toList) = false := by simp
  have hns : ((ns : Int) != (ns : Int)) = false := by simp
  clear h1 h1' h2 h2' hA hB kA kB kA' hbA hbB zA
  go_enter Tryz.func61, Tryz.ntmps61
  go_upto_region 1 with (fail)
  try rw [← HA.out]
  try rw [← HB.out]
  go_wp2_with fail
  refine HT.out.mono ?_
  rintro e w1 ⟨rfl, q1, rfl⟩
  replace c0 : (wB.drewN q1).cell? ⟨w.heap.size, 0, none⟩ = some (.string i) := c0
  replace c1 : (wB.drewN q1).cell? ⟨w.heap.size, 1, none⟩ = some (.slice pn nn cn) := c1
  replace c2 : (wB.drewN q1).cell? ⟨w.heap.size, 2, none⟩ = some (.slice ps ns cs) := c2
  replace d0 : (wB.drewN q1).cell? ⟨w.heap.size + 1, 0, none⟩ = some (.string i) := d0
  replace d1 : (wB.drewN q1).cell? ⟨w.heap.size + 1, 1, none⟩ = some (.slice pn' nn cn') := d1
  replace d2 : (wB.drewN q1).cell? ⟨w.heap.size + 1, 2, none⟩ = some (.slice ps' ns cs') := d2
  obtain ⟨wC, hC⟩ : ∃ wC, wC = wB.drewN q1 := ⟨_, rfl⟩
  rw [← hC] at c0 c1 c2 d0 d1 d2 ⊢
  have HbC : Hid (Below wB.heap.size wB wC) := Lib.hid (by rw [hC]; exact drewN_bel wB q1)
  clear hC
  go_wp2_with fail
  go_loopw [6] (fun i wr => ∃ j q : Nat, j ≤ ns ∧ i = .int .i64 j ∧ wr = wC.drewN q) (fun i _ => ns - (intOf i).toNat)
  case atStart => exact ⟨0, 0, by omega, rfl, rfl⟩
  case round =>
    obtain ⟨j, q, hj, rfl, rfl⟩ := hrel
    replace c2 : (wC.drewN q).cell? ⟨w.heap.size, 2, none⟩ = some (.slice ps ns cs) := c2
    replace d2 : (wC.drewN q).cell? ⟨w.heap.size + 1, 2, none⟩ = some (.slice ps' ns cs') := d2
    by_cases hlt : j < ns
    · obtain ⟨b, o, rfl, hbl⟩ := Hptr.out.2.2 (by omega)
      obtain ⟨b', o', rfl, hbl'⟩ := Hptr'.out.2.2 (by omega)
      obtain ⟨x, hx⟩ : ∃ x, st[j]? = some x := ⟨_, List.getElem?_eq_getElem (by rw [Hptr.out.1]; exact hlt)⟩
      obtain ⟨k0, k1, k2, k3, k4⟩ := sps_cells (HS.out.later (HbC.out.trans ((drewN_bel wC q).mono HbC.out.size))) hx
      obtain ⟨l0, l1, l2, l3, l4⟩ := sps_cells (HS'.out.later (HbC.out.trans ((drewN_bel wC q).mono HbC.out.size))) hx
      have hne := neq_sp_same x.kind (B x.table) (B x.key) (B x.to) (B x.text)
      generalize B x.table = z1 at *
      generalize B x.key = z2 at *
      generalize B x.to = z3 at *
      generalize B x.text = z4 at *
      have hji : (j : Int) < (ns : Int) := by omega
      have hj5 : (0 : Int) ≤ (j : Int) := by omega
      clear hx
      generalize hq : wC.drewN q = wr at *
      have Hq := Lib.hid hq
      clear hq
      go_wp2_with fail
      go_quiet (fail)
      go_wp2_with fail
      go_roundw
      case rel => exact ⟨j + 1, _, by omega, by go_num, by rw [← Hq.out, World.drewN_drewN]⟩
      case measure => simp [intOf]; omega
    · obtain rfl : j = ns := by omega
      go_wp2_with fail
      go_ret
      exact ⟨rfl, HbB.out.trans ((HbC.out.trans ((drewN_bel wC q).mono HbC.out.size)).mono (by omega))⟩
theorem mv_cells {w : World} {b o n c : Nat} {R : List MvR} (h : rw.Rw mvC 3 w (.slice (some ⟨b, o, none⟩) n c) R) {j : Nat} {x : MvR} (hx : R[j]? = some x) :
    w.cell? ⟨b, o + j * 3, none⟩ = some (.string (B x.id)) ∧ w.cell? ⟨b, o + j * 3 + 1, none⟩ = some x.vn ∧ w.cell? ⟨b, o + j * 3 + 2, none⟩ = some x.vs :=
  ⟨rw.Rw.cell h hx (i := 0) rfl, rw.Rw.cell h hx (i := 1) rfl, rw.Rw.cell h hx (i := 2) rfl⟩
/-- Short lists within. -/
def Low (l : List Mv) : Prop := ∀ x ∈ l, x.needs.length ≤ 4294967295 ∧ x.steps.length ≤ 4294967295
set_option maxHeartbeats 4000000 in
set_option maxRecDepth 100000 in
theorem moves18_any (M M' : Nat) (p p' : Option Addr) (m c c' : Nat) (R R' : List MvR) (l : List Mv) (hm : m ≤ 4294967295) (hlow : Low l) (w : World) (h : NewMv M w (.slice p m c) R l) (h' : NewMv M' w (.slice p' m c') R' l) :
    Calls Tryz.prog 19 #[.slice p m c, .slice p' m c'] w fun e w' => e = .returned (.bool true) ∧ Below w.heap.size w w' := by
  have HN := Lib.hid h
  have HN' := Lib.hid h'
  have Hptr := Lib.hid (h.1.rw mvC_len).ptr
  have Hptr' := Lib.hid (h'.1.rw mvC_len).ptr
  have Hlow := Lib.hid hlow
  have hmm : ((m : Int) != (m : Int)) = false := by simp
  clear h h' hlow
  go_enter Tryz.func19, Tryz.ntmps19
  go_wp2_with fail
  go_loopw [5] (fun i wr => ∃ j : Nat, j ≤ m ∧ i = .int .i64 j ∧ Hid (Below w.heap.size w wr)) (fun i _ => m - (intOf i).toNat)
  case atStart => exact ⟨0, by omega, rfl, Lib.hid (Below.refl _ _)⟩
  case round =>
    obtain ⟨j, hj, rfl, Hb⟩ := hrel
    have hzr := Hb.out.size
    by_cases hlt : j < m
    · obtain ⟨b, o, rfl, hbl⟩ := Hptr.out.2.2 (by omega)
      obtain ⟨b', o', rfl, hbl'⟩ := Hptr'.out.2.2 (by omega)
      obtain ⟨x, hx⟩ : ∃ x, R[j]? = some x := ⟨_, List.getElem?_eq_getElem (by rw [Hptr.out.1]; exact hlt)⟩
      obtain ⟨y, hy⟩ : ∃ y, R'[j]? = some y := ⟨_, List.getElem?_eq_getElem (by rw [Hptr'.out.1]; exact hlt)⟩
      obtain ⟨z, hz⟩ : ∃ z, l[j]? = some z := ⟨_, List.getElem?_eq_getElem (by rw [← HN.out.2.1, Hptr.out.1]; exact hlt)⟩
      obtain ⟨k0, k1, k2⟩ := mv_cells ((HN.out.later Hb.out).1.rw mvC_len) hx
      obtain ⟨l0, l1, l2⟩ := mv_cells ((HN'.out.later Hb.out).1.rw mvC_len) hy
      obtain ⟨g1, g2, g3⟩ := (HN.out.later Hb.out).2.2 j x z hx hz
      obtain ⟨g1', g2', g3'⟩ := (HN'.out.later Hb.out).2.2 j y z hy hz
      obtain ⟨hlo1, hlo2⟩ := Hlow.out z (List.mem_of_getElem? hz)
      have t1 := g2.rw txC_len
      have t1' := g2'.rw txC_len
      have t2 := g3.rw spC_len
      have t2' := g3'.rw spC_len
      have e1 := t1.ptr.1
      have e1' := t1'.ptr.1
      have e2 := t2.ptr.1
      have e2' := t2'.ptr.1
      obtain ⟨xi, pn, nn, cn, ps, ns, cs⟩ := x
      obtain ⟨yi, pn', nn', cn', ps', ns', cs'⟩ := y
      simp only [MvR.vn, MvR.vs] at *
      obtain rfl : nn' = nn := by omega
      obtain rfl : ns' = ns := by omega
      obtain rfl : yi = xi := by rw [g1, g1']
      have HC := Lib.hid fun (W : World) (hW : Below wr.heap.size wr W) => same18_any (B yi) pn pn' ps ps' nn' cn cn' ns' cs cs' z.needs z.steps (by omega) (by omega) W (t1.later hW) (t1'.later hW) (t2.later hW) (t2'.later hW)
      clear hx hy hz g1 g2 g3 g1' g2' g3' t1 t1' t2 t2' e1 e1' e2 e2' hlo1 hlo2
      have hbr : b < wr.heap.size := by omega
      have hbr' : b' < wr.heap.size := by omega
      generalize B yi = zi at *
      have hji : (j : Int) < (m : Int) := by omega
      have hj5 : (0 : Int) ≤ (j : Int) := by omega
      go_wp2_with fail
      go_still_tail 8, (by kernel_rfl)
      go_wp2_with fail
      refine (HC.out _ (Below.drew (Below.refl _ _))).mono ?_
      rintro e w5 ⟨rfl, hb5⟩
      have Hb5 := Lib.hid (Hb.out.trans (((Below.drew (Below.refl _ wr)).trans hb5).mono hzr))
      clear hb5
      go_wp2_with fail
      go_roundw
      case rel => exact ⟨j + 1, by omega, by go_num, Hb5⟩
      case measure => simp [intOf]; omega
    · obtain rfl : j = m := by omega
      go_wp2_with fail
      go_ret
      exact ⟨rfl, Hb.out⟩
end Go.Proofs.YthjcifokmcbaoaaGreatDoor.st
/- law 18's BaseMakes, plain: whichever move that may be made is made next, the pairs are those of a state; the last state's pairs are the chapter's. No walk. -/
namespace Go.Proofs.YthjcifokmcbaoaaGreatDoor.st
open Go.ChangeShapes Go.WideShapes Go.ChangeAt Go.RowKit gl ls

/-- The need is made (of the first j). -/
def doneTo (made : List Bool) (need : List UInt8) (j : Nat) : Bool := (List.range j).any fun t => (made[t]?.getD false) && decide ((baseL[t]?.map (·.id)) = some need)
def readyTo (made : List Bool) (i : Nat) (needs : List (List UInt8)) : Bool := needs.foldl (fun r need => r && doneTo made need 6) (!(made[i]?.getD false))
def readyAt (made : List Bool) (i : Nat) : Bool := match baseL[i]? with
  | some m => readyTo made i m.needs
  | none => false
def mayTo (made : List Bool) (k : Nat) : List Nat := (List.range k).filter (readyAt made)
def stepsOf (i : Nat) : List Sp := match baseL[i]? with
  | some m => m.steps
  | none => []
def allOk : List Pr → List Sp → Option (List Pr)
  | L, [] => some L
  | L, s :: r => if (applyL L s).2 = 0 then allOk (applyL L s).1 r else none
def nextSt (st : List Bool × List Pr) (i : Nat) : Option (List Bool × List Pr) := (allOk st.2 (stepsOf i)).map fun L => (st.1.set i true, L)
def cnt (b : List Bool) : Nat := (b.filter id).length
/-- All states, by the number of moves that are made. -/
def states : Nat → List (List Bool × List Pr)
  | 0 => [([false, false, false, false, false, false], [])]
  | n + 1 => (states n).flatMap fun st => (mayTo st.1 6).filterMap (nextSt st)
def lastL : List Pr := [⟨[101, 118, 101, 110, 116, 115], [102, 105, 114, 115, 116], [115, 116, 97, 114, 116, 101, 100]⟩, ⟨[109, 101, 116, 97], [118, 101, 114, 115, 105, 111, 110], [49]⟩, ⟨[117, 115, 101, 114, 115], [97, 100, 109, 105, 110], [82, 79, 79, 84]⟩, ⟨[117, 115, 101, 114, 115], [103, 117, 101, 115, 116], [71, 85, 69, 83, 84]⟩]
instance : DecidableEq Pr := fun a b => if h : a.table = b.table ∧ a.key = b.key ∧ a.value = b.value then isTrue (by cases a; cases b; simp_all) else isFalse (by intro e; subst e; simp at h)
def goodAt (n : Nat) : Bool := (states n).all fun st => !(mayTo st.1 6).isEmpty && (mayTo st.1 6).all fun i => (nextSt st i).isSome
theorem good0 : goodAt 0 = true := by decide +kernel
theorem good1 : goodAt 1 = true := by decide +kernel
theorem good2 : goodAt 2 = true := by decide +kernel
theorem good3 : goodAt 3 = true := by decide +kernel
theorem good4 : goodAt 4 = true := by decide +kernel
theorem good5 : goodAt 5 = true := by decide +kernel
theorem good_last : ((states 6).all fun st => decide (st.2 = lastL)) = true := by decide +kernel
theorem good_of : ∀ n, n < 6 → goodAt n = true
  | 0, _ => good0
  | 1, _ => good1
  | 2, _ => good2
  | 3, _ => good3
  | 4, _ => good4
  | 5, _ => good5
theorem states_next {n i : Nat} {st st' : List Bool × List Pr} (h : st ∈ states n) (hi : i ∈ mayTo st.1 6) (hn : nextSt st i = some st') : st' ∈ states (n + 1) := List.mem_flatMap.2 ⟨st, h, List.mem_filterMap.2 ⟨i, hi, hn⟩⟩
theorem states_good {n : Nat} {st : List Bool × List Pr} (hn : n < 6) (h : st ∈ states n) : mayTo st.1 6 ≠ [] ∧ ∀ i ∈ mayTo st.1 6, ∃ L, allOk st.2 (stepsOf i) = some L ∧ (st.1.set i true, L) ∈ states (n + 1) := by
  have hg := List.all_eq_true.1 (good_of n hn) st h
  simp only [Bool.and_eq_true, Bool.not_eq_true', List.isEmpty_eq_false_iff] at hg
  refine ⟨hg.1, fun i hi => ?_⟩
  have h2 := List.all_eq_true.1 hg.2 i hi
  obtain ⟨st', hst⟩ := Option.isSome_iff_exists.1 h2
  have h3 := states_next h hi hst
  unfold nextSt at hst
  obtain ⟨L, hL, rfl⟩ := Option.map_eq_some_iff.1 hst
  exact ⟨L, hL, h3⟩
theorem states_last {st : List Bool × List Pr} (h : st ∈ states 6) : st.2 = lastL := of_decide_eq_true (List.all_eq_true.1 good_last st h)
theorem may_lt {made : List Bool} {k i : Nat} (h : i ∈ mayTo made k) : i < k := List.mem_range.1 (List.mem_filter.1 h).1
theorem may_step (made : List Bool) (k : Nat) : mayTo made (k + 1) = if readyAt made k then mayTo made k ++ [k] else mayTo made k := by
  unfold mayTo
  rw [List.range_succ, List.filter_append]
  cases h : readyAt made k <;> simp [h]
theorem done_step (made : List Bool) (need : List UInt8) (j : Nat) : doneTo made need (j + 1) = (doneTo made need j || ((made[j]?.getD false) && decide ((baseL[j]?.map (·.id)) = some need))) := by
  unfold doneTo
  rw [List.range_succ, List.any_append]
  simp
theorem stepsSz : ∀ m ∈ baseL, ∀ s ∈ m.steps, SpSz s := by
  intro m hm s hs
  simp only [baseL, List.mem_cons, List.not_mem_nil, or_false] at hm
  rcases hm with rfl | rfl | rfl | rfl | rfl | rfl <;> simp only [List.mem_cons, List.not_mem_nil, or_false] at hs <;> (try rcases hs with rfl | rfl) <;> (try subst hs) <;> exact ⟨by decide, by decide, by decide, by decide⟩
end Go.Proofs.YthjcifokmcbaoaaGreatDoor.st
/- StepCalls returns true. Condition: the listed variables hold what the program's text lays. -/
namespace Go.Proofs.YthjcifokmcbaoaaGreatDoor.st
open Go.ChangeShapes Go.WideShapes Go.ChangeAt Go.RowKit gl ls

set_option maxHeartbeats 8000000 in
set_option maxRecDepth 100000 in
theorem stepCalls_any (s x : ByteArray) (w : World) (hS : Slo w) : Calls Tryz.prog 9 #[.string s, .string x] w fun e w' => e = .returned (.bool true) ∧ Below w.heap.size w w' := by
  have HA := Lib.hid (addsUp_any (s.size : Int) (x.size : Int) w (by omega) (by omega))
  have HCa := Lib.hid fun (W : World) (hb : Below w.heap.size w W) => Call_any s x W (hS.later hb)
  have HCb := Lib.hid fun (W : World) => refCall_any s x W
  have HSt := Lib.hid fun (W : World) (hb : Below w.heap.size w W) => stepStands_any W (hS.later hb)
  simp only [callV] at HCa HCb
  obtain ⟨u, E, hU⟩ : ∃ u E, callL s.data.toList x.data.toList = (u, E) := ⟨_, _, rfl⟩
  rw [hU] at HCa HCb
  simp only at HCa HCb
  clear hU hS
  generalize B u = uu at *
  generalize addU (s.size : Int) (x.size : Int) = N at *
  by_cases hbig : 2147483647 < N
  · have q1 : decide (2147483647 < N) = true := by rw [decide_eq_true_iff]; exact hbig
    go_enter Tryz.func9, Tryz.ntmps9
    go_wp2_with fail
    refine HA.out.mono ?_
    rintro e w1 ⟨rfl, hw⟩
    obtain rfl : w = w1 := hw.symm
    go_wp2_with fail
    go_ret
    exact ⟨rfl, Below.refl _ _⟩
  · have q1 : decide (2147483647 < N) = false := by rw [decide_eq_false_iff_not]; exact hbig
    have qr : (E == E) = true := by simp
    go_enter Tryz.func9, Tryz.ntmps9
    go_wp2_with fail
    refine HA.out.mono ?_
    rintro e w1 ⟨rfl, hw⟩
    obtain rfl : w = w1 := hw.symm
    go_wp2_with fail
    refine (HCa.out _ (Below.refl _ _)).mono ?_
    rintro e w1 ⟨rfl, hb1⟩
    have HB1 := Lib.hid hb1
    clear hb1
    go_wp2_with fail
    refine (HCb.out _).mono ?_
    rintro e w2 ⟨rfl, hb2⟩
    have HB2 := Lib.hid (then_bel HB1.out hb2)
    clear hb2
    go_wp2_with fail
    refine (HSt.out _ HB2.out).mono ?_
    rintro e w3 ⟨rfl, hb3⟩
    have HB3 := Lib.hid (then_bel HB2.out hb3)
    clear hb3
    go_wp2_with fail
    refine (HCa.out _ HB3.out).mono ?_
    rintro e w4 ⟨rfl, hb4⟩
    have HB4 := Lib.hid (then_bel HB3.out hb4)
    clear hb4
    go_wp2_with fail
    go_ret
    exact ⟨rfl, HB4.out⟩
end Go.Proofs.YthjcifokmcbaoaaGreatDoor.st
/- Chapter 16 in plain words: a step does with the pairs of its tables what it does where there are no others. No program in sight; no conditions beside those stated. -/
namespace Go.Proofs.YthjcifokmcbaoaaGreatDoor.st
open gl

def spk (s : Sp) (p : Pr) : Bool := decide (p.table = s.table) || (decide (s.kind = 4) && decide (p.table = s.to))
theorem spk_table {s : Sp} {p : Pr} (h : p.table = s.table) : spk s p = true := by unfold spk; rw [decide_eq_true h]; rfl
theorem idx_filter {l : List Pr} {s : Sp} {k : List UInt8} : (idxL (l.filter (spk s)) s.table k).isSome = (idxL l s.table k).isSome := by
  rw [Bool.eq_iff_iff, Option.isSome_iff_exists, Option.isSome_iff_exists]
  constructor
  · rintro ⟨i, hi⟩
    obtain ⟨p, hp, h1, h2, _⟩ := idx_some hi
    cases h : idxL l s.table k with
    | some j => exact ⟨j, rfl⟩
    | none => exact absurd ⟨h1, h2⟩ (idx_none h p (List.mem_filter.1 (List.mem_of_getElem? hp)).1)
  · rintro ⟨i, hi⟩
    obtain ⟨p, hp, h1, h2, _⟩ := idx_some hi
    cases h : idxL (l.filter (spk s)) s.table k with
    | some j => exact ⟨j, rfl⟩
    | none => exact absurd ⟨h1, h2⟩ (idx_none h p (List.mem_filter.2 ⟨List.mem_of_getElem? hp, spk_table h1⟩))
theorem asc_same {l : List Pr} (h : Asc l) {p q : Pr} (hp : p ∈ l) (hq : q ∈ l) (h1 : p.table = q.table) (h2 : p.key = q.key) : p = q := by
  obtain ⟨i, hi⟩ := List.mem_iff_getElem?.1 hp
  obtain ⟨hx, hy⟩ := asc_apart (by rw [← get_split hi]; exact h)
  rw [get_split hi] at hq
  rcases List.mem_append.1 hq with hq | hq
  · exact absurd ⟨h1.symm, h2.symm⟩ (ltP_ne (hx q hq))
  · rcases List.mem_cons.1 hq with rfl | hq
    · rfl
    · exact absurd ⟨h1, h2⟩ (ltP_ne (hy q hq))
theorem mapF_filter {t f : List UInt8} (g : Pr → Bool) (hg : ∀ p q : Pr, p.table = q.table → g p = g q) (ht : ∀ p : Pr, p.table = t → g p = true) : ∀ l : List Pr, mapF t f (l.filter g) = (mapF t f l).map fun q => q.filter g
  | [] => rfl
  | p :: r => by
    rw [List.filter_cons]
    by_cases hp : p.table = t
    · rw [if_pos (ht p hp), mapF, if_pos hp, mapF, if_pos hp]
      cases hv : funL f p.value with
      | none => rfl
      | some v =>
        simp only
        rw [mapF_filter g hg ht r]
        cases mapF t f r with
        | none => rfl
        | some q =>
          simp only [Option.map_some, List.filter_cons]
          have hgv : g ⟨p.table, p.key, v⟩ = true := (hg ⟨p.table, p.key, v⟩ p rfl).trans (ht p hp)
          rw [if_pos hgv]
    · rw [show mapF t f (p :: r) = (mapF t f r).map fun q => p :: q by rw [mapF, if_neg hp]]
      split
      · rename_i hgp
        rw [mapF, if_neg hp, mapF_filter g hg ht r]
        cases mapF t f r with
        | none => rfl
        | some q =>
          simp only [Option.map_some, List.filter_cons]
          rw [if_pos hgp]
      · rename_i hgp
        rw [mapF_filter g hg ht r]
        cases mapF t f r with
        | none => rfl
        | some q =>
          simp only [Option.map_some, List.filter_cons]
          rw [if_neg hgp]
theorem mapF_other {t f : List UInt8} (g : Pr → Bool) (hg : ∀ p q : Pr, p.table = q.table → g p = g q) (ht : ∀ p : Pr, p.table = t → g p = false) : ∀ l q : List Pr, mapF t f l = some q → q.filter g = l.filter g
  | [], q, h => by simp [mapF] at h; subst h; rfl
  | p :: r, q, h => by
    unfold mapF at h
    split at h
    · rename_i hp
      split at h
      · cases h
      · cases hr : mapF t f r with
        | none => rw [hr] at h; cases h
        | some q' =>
          rw [hr] at h
          simp at h
          subst h
          have hgv : ∀ v, g ⟨p.table, p.key, v⟩ = false := fun v => (hg ⟨p.table, p.key, v⟩ p rfl).trans (ht p hp)
          rw [List.filter_cons, List.filter_cons, if_neg (by rw [hgv]; simp), if_neg (by rw [ht p hp]; simp), mapF_other g hg ht r q' hr]
    · rename_i hp
      cases hr : mapF t f r with
      | none => rw [hr] at h; cases h
      | some q' =>
        rw [hr] at h
        simp at h
        subst h
        rw [List.filter_cons, List.filter_cons, mapF_other g hg ht r q' hr]
theorem spk_same (s : Sp) (p q : Pr) (h : p.table = q.table) : spk s p = spk s q := by unfold spk; rw [h]
def Alone (l : List Pr) (s : Sp) : Prop := (madeL (l.filter (spk s)) s).2 = (madeL l s).2 ∧ ((madeL l s).2 = 0 → ((madeL l s).1.filter (spk s)).Perm (madeL (l.filter (spk s)) s).1 ∧ ((madeL l s).1.filter fun p => !spk s p).Perm (l.filter fun p => !spk s p))
theorem filter_snoc_yes {l : List Pr} {g : Pr → Bool} {p : Pr} (h : g p = true) : (l ++ [p]).filter g = l.filter g ++ [p] := by rw [List.filter_append, List.filter_cons, if_pos h]; rfl
theorem filter_snoc_no {l : List Pr} {g : Pr → Bool} {p : Pr} (h : g p = false) : (l ++ [p]).filter g = l.filter g := by rw [List.filter_append, List.filter_cons, if_neg (by rw [h]; simp)]; simp
theorem made_alone_put {l : List Pr} {s : Sp} (k : s.kind = 1) : Alone l s := by
  have h1 := idx_filter (l := l) (s := s) (k := s.key)
  cases hi : idxL l s.table s.key with
  | some i =>
    rw [hi] at h1
    have e1 : madeL l s = ([], 161) := by unfold madeL; rw [if_pos k, hi]; rfl
    have e2 : madeL (l.filter (spk s)) s = ([], 161) := by unfold madeL; rw [if_pos k, h1]; rfl
    unfold Alone
    rw [e1, e2]
    exact ⟨rfl, fun h => absurd h (by decide)⟩
  | none =>
    rw [hi] at h1
    have e1 : madeL l s = (l ++ [⟨s.table, s.key, s.text⟩], 0) := by unfold madeL; rw [if_pos k, hi]; rfl
    have e2 : madeL (l.filter (spk s)) s = (l.filter (spk s) ++ [⟨s.table, s.key, s.text⟩], 0) := by unfold madeL; rw [if_pos k, h1]; rfl
    have hs : spk s ⟨s.table, s.key, s.text⟩ = true := spk_table rfl
    unfold Alone
    rw [e1, e2]
    refine ⟨rfl, fun _ => ⟨List.Perm.of_eq (filter_snoc_yes hs), List.Perm.of_eq (filter_snoc_no (by rw [hs]; rfl))⟩⟩
theorem made_alone_drop {l : List Pr} {s : Sp} (k : s.kind = 2) : Alone l s := by
  have e : ∀ m : List Pr, madeL m s = (butL m s.table s.key, 0) := fun m => by unfold madeL; rw [if_neg (by omega), if_pos k]
  unfold Alone
  rw [e, e]
  refine ⟨rfl, fun _ => ⟨List.Perm.of_eq ?_, List.Perm.of_eq ?_⟩⟩
  · show List.filter (spk s) (butL l s.table s.key) = butL _ _ _
    unfold butL
    rw [List.filter_filter, List.filter_filter]
    exact List.filter_congr fun x _ => Bool.and_comm _ _
  · show List.filter _ (butL l s.table s.key) = _
    unfold butL
    rw [List.filter_filter]
    refine List.filter_congr fun x _ => ?_
    cases hx : goes s.table s.key x with
    | false => simp
    | true =>
      have : x.table = s.table := by
        unfold goes at hx
        simp only [Bool.and_eq_true, decide_eq_true_eq] at hx
        exact hx.1
      rw [spk_table this]
      rfl
theorem made_alone_name {l : List Pr} {s : Sp} (ha : Asc l) (k : s.kind = 3 ∨ s.kind = 6) : Alone l s := by
  have h1 := idx_filter (l := l) (s := s) (k := s.key)
  have h2 := idx_filter (l := l) (s := s) (k := s.to)
  have n1 : ¬ s.kind = 1 := by omega
  have n2 : ¬ s.kind = 2 := by omega
  cases hi : idxL l s.table s.key with
  | none =>
    rw [hi] at h1
    have h1' : idxL (l.filter (spk s)) s.table s.key = none := by simpa using h1
    have e1 : madeL l s = (l, 0) := by unfold madeL; rw [if_neg n1, if_neg n2, if_pos k, hi]
    have e2 : madeL (l.filter (spk s)) s = (l.filter (spk s), 0) := by unfold madeL; rw [if_neg n1, if_neg n2, if_pos k, h1']
    unfold Alone
    rw [e1, e2]
    exact ⟨rfl, fun _ => ⟨List.Perm.refl _, List.Perm.refl _⟩⟩
  | some i =>
    rw [hi] at h1
    obtain ⟨i', hi'⟩ := Option.isSome_iff_exists.1 h1
    obtain ⟨p, hp, t1, t2, _⟩ := idx_some hi
    obtain ⟨p', hp', t1', t2', _⟩ := idx_some hi'
    obtain rfl : p' = p := asc_same ha (List.mem_filter.1 (List.mem_of_getElem? hp')).1 (List.mem_of_getElem? hp) (t1'.trans t1.symm) (t2'.trans t2.symm)
    cases hj : idxL l s.table s.to with
    | some j =>
      rw [hj] at h2
      obtain ⟨j', hj'⟩ := Option.isSome_iff_exists.1 h2
      have e1 : madeL l s = ([], 161) := by unfold madeL; rw [if_neg n1, if_neg n2, if_pos k, hi, hj]; rfl
      have e2 : madeL (l.filter (spk s)) s = ([], 161) := by unfold madeL; rw [if_neg n1, if_neg n2, if_pos k, hi', hj']; rfl
      unfold Alone
      rw [e1, e2]
      exact ⟨rfl, fun h => absurd h (by decide)⟩
    | none =>
      rw [hj] at h2
      have h2' : idxL (l.filter (spk s)) s.table s.to = none := by simpa using h2
      by_cases k6 : s.kind = 6
      · have e1 : madeL l s = (l ++ [⟨s.table, s.to, p'.value⟩], 0) := by unfold madeL; rw [if_neg n1, if_neg n2, if_pos k, hi, hj]; simp [hp, k6]
        have e2 : madeL (l.filter (spk s)) s = (l.filter (spk s) ++ [⟨s.table, s.to, p'.value⟩], 0) := by unfold madeL; rw [if_neg n1, if_neg n2, if_pos k, hi', h2']; simp [hp', k6]
        have hs : spk s ⟨s.table, s.to, p'.value⟩ = true := spk_table rfl
        unfold Alone
        rw [e1, e2]
        exact ⟨rfl, fun _ => ⟨List.Perm.of_eq (filter_snoc_yes hs), List.Perm.of_eq (filter_snoc_no (by rw [hs]; rfl))⟩⟩
      · have e1 : madeL l s = (l.set i { p' with key := s.to }, 0) := by unfold madeL; rw [if_neg n1, if_neg n2, if_pos k, hi, hj]; simp [hp, k6]
        have e2 : madeL (l.filter (spk s)) s = ((l.filter (spk s)).set i' { p' with key := s.to }, 0) := by unfold madeL; rw [if_neg n1, if_neg n2, if_pos k, hi', h2']; simp [hp', k6]
        have hs : spk s { p' with key := s.to } = true := spk_table t1
        have hs' : spk s p' = true := spk_table t1
        unfold Alone
        rw [e1, e2]
        refine ⟨rfl, fun _ => ⟨?_, ?_⟩⟩
        · have c1 := (perm_split hp).filter (spk s)
          rw [List.filter_cons, if_pos hs'] at c1
          have c2 := (List.perm_cons p').1 (c1.symm.trans (perm_split hp'))
          refine ((set_perm hp).filter (spk s)).trans ?_
          rw [List.filter_cons, if_pos hs]
          exact (c2.cons _).trans (set_perm hp').symm
        · refine ((set_perm hp).filter _).trans ?_
          rw [List.filter_cons, if_neg (by rw [hs]; simp)]
          have c1 := (perm_split hp).filter fun p => !spk s p
          rw [List.filter_cons, if_neg (by rw [hs']; simp)] at c1
          exact c1.symm
theorem any_filter {l : List Pr} {s : Sp} {t : List UInt8} (h : ∀ p : Pr, p.table = t → spk s p = true) : (l.filter (spk s)).any (fun p => decide (p.table = t)) = l.any fun p => decide (p.table = t) := by
  rw [Bool.eq_iff_iff, List.any_eq_true, List.any_eq_true]
  constructor
  · rintro ⟨x, hx, h1⟩
    exact ⟨x, (List.mem_filter.1 hx).1, h1⟩
  · rintro ⟨x, hx, h1⟩
    exact ⟨x, List.mem_filter.2 ⟨hx, h x (by simpa using h1)⟩, h1⟩
theorem made_alone_tab {l : List Pr} {s : Sp} (k : s.kind = 4) : Alone l s := by
  have n1 : ¬ s.kind = 1 := by omega
  have n2 : ¬ s.kind = 2 := by omega
  have n3 : ¬ (s.kind = 3 ∨ s.kind = 6) := by omega
  have st : ∀ p : Pr, p.table = s.to → spk s p = true := fun p h => by unfold spk; rw [decide_eq_true k, decide_eq_true h]; simp
  have a1 := any_filter (l := l) (s := s) (t := s.table) fun p h => spk_table h
  have a2 := any_filter (l := l) (s := s) (t := s.to) st
  have hF : ∀ x, spk s (tabF s.table s.to x) = spk s x := by
    intro x
    unfold tabF
    split
    · rename_i h
      rw [st _ rfl, spk_table h]
    · rfl
  have eq : ∀ m : List Pr, madeL m s = if m.any (fun p => decide (p.table = s.table)) = true then (if m.any (fun p => decide (p.table = s.to)) = true then ([], 161) else (m.map (tabF s.table s.to), 0)) else (m, 0) := fun m => by unfold madeL; rw [if_neg n1, if_neg n2, if_neg n3, if_pos k]
  unfold Alone
  rw [eq, eq, a1, a2]
  cases l.any (fun p => decide (p.table = s.table)) with
  | false => exact ⟨rfl, fun _ => ⟨List.Perm.refl _, List.Perm.refl _⟩⟩
  | true =>
    cases l.any (fun p => decide (p.table = s.to)) with
    | true => exact ⟨rfl, fun h => absurd (show ¬ ((161 : Int) = 0) by decide) (fun h2 => h2 h)⟩
    | false =>
      refine ⟨rfl, fun _ => ⟨List.Perm.of_eq ?_, List.Perm.of_eq ?_⟩⟩
      · show (l.map (tabF s.table s.to)).filter (spk s) = (l.filter (spk s)).map (tabF s.table s.to)
        rw [List.filter_map]
        congr 1
        exact List.filter_congr fun x _ => hF x
      · show (l.map (tabF s.table s.to)).filter (fun p => !spk s p) = l.filter fun p => !spk s p
        rw [List.filter_map]
        have : l.filter ((fun p => !spk s p) ∘ tabF s.table s.to) = l.filter fun p => !spk s p := List.filter_congr fun x _ => by show (!spk s (tabF s.table s.to x)) = _; rw [hF]
        rw [this]
        conv => rhs; rw [← List.map_id (l.filter fun p => !spk s p)]
        refine List.map_congr_left fun x hx => ?_
        unfold tabF
        rw [if_neg]
        · rfl
        · intro e
          have h2 := (List.mem_filter.1 hx).2
          rw [spk_table e] at h2
          cases h2
theorem made_alone_fn {l : List Pr} {s : Sp} (k : s.kind = 5) : Alone l s := by
  have n1 : ¬ s.kind = 1 := by omega
  have n2 : ¬ s.kind = 2 := by omega
  have n3 : ¬ (s.kind = 3 ∨ s.kind = 6) := by omega
  have n4 : ¬ s.kind = 4 := by omega
  have eq : ∀ m : List Pr, madeL m s = match mapF s.table s.text m with | none => ([], 162) | some q => (q, 0) := fun m => by unfold madeL; rw [if_neg n1, if_neg n2, if_neg n3, if_neg n4]; rfl
  unfold Alone
  rw [eq, eq, mapF_filter (spk s) (spk_same s) (fun p h => spk_table h)]
  cases hq : mapF s.table s.text l with
  | none => exact ⟨rfl, fun h => absurd h (by decide)⟩
  | some q => exact ⟨rfl, fun _ => ⟨List.Perm.refl _, List.Perm.of_eq (mapF_other (fun p => !spk s p) (fun p q h => by show (!spk s p) = !spk s q; rw [spk_same s p q h]) (fun p h => by show (!spk s p) = false; rw [spk_table h]; rfl) l q hq)⟩⟩
theorem made_alone {l : List Pr} {s : Sp} (ha : Asc l) (hr : RightS s) : Alone l s := by
  rcases hr.kinds with k | k | k | k | k | k
  · exact made_alone_put k
  · exact made_alone_drop k
  · exact made_alone_name ha (.inl k)
  · exact made_alone_tab k
  · exact made_alone_fn k
  · exact made_alone_name ha (.inr k)
theorem may_filter {l : List Pr} (h : mayL l = true) (g : Pr → Bool) : mayL (l.filter g) = true := by
  obtain ⟨h1, _, h3⟩ := may_parts h
  exact may_of (Nat.le_trans (List.length_filter_le _ _) h1) (fun p hp => may_words h p (List.mem_filter.1 hp).1) (List.Pairwise.filter _ h3)
/-- THE STAGE'S THEOREM, in plain words. -/
theorem alone {l : List Pr} {s : Sp} (h1 : (applyL l s).2 ≠ 1) (h2 : (applyL l s).2 ≠ 163) : (applyL (l.filter (spk s)) s).2 = (applyL l s).2 ∧
    ((applyL l s).2 = 0 → (applyL l s).1.filter (spk s) = (applyL (l.filter (spk s)) s).1 ∧ ((applyL l s).1.filter fun p => !spk s p) = l.filter fun p => !spk s p) := by
  have hm : mayL l = true := by
    cases h : mayL l with
    | true => rfl
    | false => exact absurd (by unfold applyL; rw [if_neg (by rw [h]; simp)]) h1
  have hmo := may_filter hm (spk s)
  by_cases hr : rightL s = true
  · obtain ⟨e, hp⟩ := made_alone (may_parts hm).2.2 (right_parts hr)
    rcases apply_made hm hr with ⟨n0, ea⟩ | ⟨_, _, ea⟩ | ⟨n0, hl, e0, pa, aa⟩
    · rcases apply_made hmo hr with ⟨m0, eb⟩ | ⟨m0, _, _⟩ | ⟨m0, _⟩
      · rw [ea, eb]
        exact ⟨e, fun h => absurd h n0⟩
      · exact absurd (e.symm.trans m0) n0
      · exact absurd (e.symm.trans m0) n0
    · rw [ea] at h2; exact absurd rfl h2
    · obtain ⟨p1, p2⟩ := hp n0
      have hle : (madeL (l.filter (spk s)) s).1.length ≤ 500 := by
        have := p1.length_eq
        have h3 := List.length_filter_le (spk s) (madeL l s).1
        omega
      rcases apply_made hmo hr with ⟨m0, _⟩ | ⟨_, hlen, _⟩ | ⟨m0, _, f0, pb, ab⟩
      · exact absurd (e.trans n0) m0
      · omega
      · refine ⟨by rw [f0, e0], fun _ => ⟨asc_unique (List.Pairwise.filter _ aa) ab ((pa.symm.filter _).trans (p1.trans pb)), asc_unique (List.Pairwise.filter _ aa) (List.Pairwise.filter _ (may_parts hm).2.2) ((pa.symm.filter _).trans p2)⟩⟩
  · have e : ∀ m : List Pr, mayL m = true → applyL m s = ([], 160) := fun m h => by unfold applyL; rw [if_pos h, if_neg hr]
    rw [e l hm, e _ hmo]
    exact ⟨rfl, fun h => absurd h (by decide)⟩
theorem asc_next {a : List Pr} (h : Asc a) {i : Nat} {p q : Pr} (hp : a[i]? = some p) (hq : a[i + 1]? = some q) : ltP p q = true := ascB_at a i q p (asc_to a h) hp hq
end Go.Proofs.YthjcifokmcbaoaaGreatDoor.st
/- law 16: speaks and but. Conditions: at most 100000 pairs. -/
namespace Go.Proofs.YthjcifokmcbaoaaGreatDoor.st
open Go.ChangeShapes Go.WideShapes Go.ChangeAt Go.RowKit gl ls

theorem seq_dec (a b : List UInt8) : ((B a).toList == (B b).toList) = decide (a = b) := by
  by_cases h : a = b
  · rw [decide_eq_true h]; exact seq_true (by rw [h])
  · rw [decide_eq_false h]; exact seq_false (fun e => h (B_inj e))
set_option maxHeartbeats 2000000 in
theorem speaks_any (s : Sp) (t : List UInt8) (x : Pr) (ht : x.table = t) (w : World) : Calls Tryz.prog 78 #[spA s, .string (B t)] w fun e w' => e = .returned (.bool (spk s x)) ∧ Below w.heap.size w w' := by
  unfold spA
  have HI : Hid (spk s x = (decide (s.table = t) || (decide (s.kind = 4) && decide (s.to = t)))) := Lib.hid (by
    unfold spk
    rw [ht]
    rw [show decide (t = s.table) = decide (s.table = t) by rw [Bool.eq_iff_iff]; simp [eq_comm], show decide (t = s.to) = decide (s.to = t) by rw [Bool.eq_iff_iff]; simp [eq_comm]])
  have Hb := Lib.hid ((Below.refl w.heap.size w).alloc (Nat.le_refl _) (.cells #[.int .i64 s.kind, .string (B s.table), .string (B s.key), .string (B s.to), .string (B s.text)] 42))
  have q1 := seq_dec s.table t
  have q2 := seq_dec s.to t
  have q3 : (s.kind == 4) = decide (s.kind = 4) := rfl
  generalize spk s x = r at *
  generalize decide (s.table = t) = d1 at *
  generalize decide (s.to = t) = d2 at *
  generalize hd3 : decide (s.kind = 4) = d3 at *
  clear hd3
  generalize B s.table = x1 at *
  generalize B s.key = x2 at *
  generalize B s.to = x3 at *
  generalize B s.text = x4 at *
  generalize B t = tt at *
  cases d1
  · cases d3
    · go_enter Tryz.func78, Tryz.ntmps78
      go_wp2_with fail
      go_ret
      exact ⟨ret_bool (by rw [HI.out]; rfl), Hb.out⟩
    · go_enter Tryz.func78, Tryz.ntmps78
      go_wp2_with fail
      go_ret
      exact ⟨ret_bool (by rw [HI.out]; simp), Hb.out⟩
  · go_enter Tryz.func78, Tryz.ntmps78
    go_wp2_with fail
    go_ret
    exact ⟨ret_bool (by rw [HI.out]; rfl), Hb.out⟩
def butS (s : Sp) (b : Bool) (l : List Pr) : List Pr := l.filter fun p => spk s p == b
theorem butS_in {l : List Pr} {k : Nat} {x : Pr} {s : Sp} {b : Bool} (h : l[k]? = some x) (hg : spk s x = b) : butS s b (l.take (k + 1)) = butS s b (l.take k) ++ [x] := by
  rw [take_at h]; unfold butS; rw [List.filter_append, List.filter_cons, if_pos (by rw [hg]; simp)]; rfl
theorem butS_out {l : List Pr} {k : Nat} {x : Pr} {s : Sp} {b : Bool} (h : l[k]? = some x) (hg : ¬ spk s x = b) : butS s b (l.take (k + 1)) = butS s b (l.take k) := by
  rw [take_at h]; unfold butS; rw [List.filter_append, List.filter_cons, if_neg (by simpa using hg)]; simp
theorem butS_len (l : List Pr) (k : Nat) (s : Sp) (b : Bool) : (butS s b (l.take k)).length ≤ k := Nat.le_trans (List.length_filter_le _ _) (List.length_take_le _ _)
set_option maxHeartbeats 4000000 in
set_option maxRecDepth 100000 in
theorem but_any (p : Option Addr) (m c : Nat) (l : List Pr) (s : Sp) (sp : Bool) (hm : m ≤ 2147483647) (w : World) (h : Prs w (.slice p m c) l) :
    Calls Tryz.prog 38 #[.slice p m c, spA s, .bool sp] w fun e w' => ∃ v, e = .returned v ∧ OwnP w.heap.size w' v (butS s sp l) ∧ Below w.heap.size w w' := by
  obtain ⟨hlen, hmc, hptr⟩ := h.ptr
  have HSp := Lib.hid fun (x : Pr) (W : World) => speaks_any s x.table x rfl W
  unfold spA at HSp ⊢
  obtain ⟨wA, hA⟩ : ∃ wA, wA = w.alloc (.cells #[.int .i64 s.kind, .string (B s.table), .string (B s.key), .string (B s.to), .string (B s.text)] 42) := ⟨_, rfl⟩
  obtain ⟨hbA, c0, c1, c2, c3, c4⟩ := box1 hA
  have hzA : wA.heap.size = w.heap.size + 1 := by rw [hA]; simp
  have HL := Lib.hid (h.later hbA)
  have Hlen := Lib.hid hlen
  have HP := Lib.hid hptr
  have HA := Lib.hid hA
  have HbA := Lib.hid hbA
  have HzA := Lib.hid hzA
  have C0 := Lib.hid c0
  have C1 := Lib.hid c1
  have C2 := Lib.hid c2
  have C3 := Lib.hid c3
  have C4 := Lib.hid c4
  obtain ⟨i0, hi, hz0, hz1, hz2⟩ := info_parts infoPr
  clear h hlen hptr hA hbA hzA c0 c1 c2 c3 c4
  generalize B s.table = x1 at *
  generalize B s.key = x2 at *
  generalize B s.to = x3 at *
  generalize B s.text = x4 at *
  go_enter Tryz.func38, Tryz.ntmps38
  go_wp2_with fail
  rw [← HA.out]
  go_loopw [7, 8] (fun v i wr => ∃ k : Nat, k ≤ m ∧ i = .int .i64 k ∧ Hid (OwnP (w.heap.size + 1) wr v (butS s sp (l.take k))) ∧ Hid (Below wA.heap.size wA wr)) (fun _ i _ => m - (intOf i).toNat)
  case atStart => exact ⟨0, by omega, rfl, Lib.hid (own_none _ _), Lib.hid (Below.refl _ _)⟩
  case round =>
    obtain ⟨k, hk, rfl, Hown, Hb⟩ := hrel
    by_cases hlt : k < m
    · obtain ⟨b, o, rfl, hbl⟩ := HP.out (by omega)
      obtain ⟨x, hx⟩ : ∃ x, l[k]? = some x := ⟨_, List.getElem?_eq_getElem (by rw [Hlen.out]; exact hlt)⟩
      obtain ⟨e0, e1, e2⟩ := prs_cells (HL.out.later Hb.out) hx
      have d0 := cell_then C0.out Hb.out
      have d1 := cell_then C1.out Hb.out
      have d2 := cell_then C2.out Hb.out
      have d3 := cell_then C3.out Hb.out
      have d4 := cell_then C4.out Hb.out
      have hki : (k : Int) < (m : Int) := by omega
      have hk5 : (0 : Int) ≤ (k : Int) := by omega
      have HQ := Lib.hid (HSp.out x)
      have hbs : w.heap.size + 1 ≤ wr.heap.size := by rw [← HzA.out]; exact Hb.out.size
      have Hx := Lib.hid hx
      have HX := Lib.hid (snoc_pr x)
      have hbl5 := butS_len l k s sp
      clear hx
      by_cases hs : spk s x = sp
      · have HI := Lib.hid (butS_in Hx.out hs)
        rw [hs] at HQ
        clear hs
        have q1 : (sp == sp) = true := by simp
        generalize B x.table = y1 at *
        generalize B x.key = y2 at *
        generalize B x.value = y3 at *
        go_wp2_with fail
        go_still_tail 6, (by kernel_rfl)
        go_wp2_with fail
        refine (HQ.out _).mono ?_
        rintro e w5 ⟨rfl, hb5⟩
        have hb5' : Below wr.heap.size wr w5 := (Below.drew (Below.refl _ wr)).trans hb5
        have HO5 := Lib.hid (ls.own_kept Hown.out hb5')
        have HB4 := Lib.hid (then_bel Hb.out hb5')
        have g0 := cell_then e0 hb5'
        have g1 := cell_then e1 hb5'
        have g2 := cell_then e2 hb5'
        have hz5 := hb5'.size
        clear hb5 hb5' d0 d1 d2 d3 d4 e0 e1 e2
        focus
          go_wp2_with (at_builtin; go_must (refine wpList_append_k rfl _ _ 44 rfl 57 i0 _ 3 48 Tryz.underlying44 hi hz0 hz1 hz2 rfl (by omega) _ (by rfl) (by rfl) (w.heap.size + 1) _ _ _ (by rfl) HO5.out (by simp [Value.oneCell']) (by omega) (by omega) (by omega) ?_))
        intro g' cap' w6 hown6 hgrow hat hz6 hlt6
        have Hown6 := Lib.hid hown6
        have HB6 := Lib.hid (grown_bel HB4.out HO5.out hgrow (by rw [HzA.out]; exact Nat.le_refl _) (by rw [HzA.out]; omega))
        clear hown6 hgrow hat hlt6
        go_wp2_with fail
        go_roundw
        case rel => exact ⟨k + 1, by omega, by go_num, Lib.hid (by rw [HI.out]; exact own_snoc Hown6.out rfl (HX.out _)), HB6⟩
        case measure => simp [intOf]; omega
      · have HI := Lib.hid (butS_out Hx.out hs)
        have q1 : (spk s x == sp) = false := by rw [beq_eq_false_iff_ne]; exact hs
        generalize spk s x = ss at *
        clear hs
        generalize B x.table = y1 at *
        generalize B x.key = y2 at *
        generalize B x.value = y3 at *
        go_wp2_with fail
        go_still_tail 6, (by kernel_rfl)
        go_wp2_with fail
        refine (HQ.out _).mono ?_
        rintro e w5 ⟨rfl, hb5⟩
        have hb5' : Below wr.heap.size wr w5 := (Below.drew (Below.refl _ wr)).trans hb5
        have HO5 := Lib.hid (ls.own_kept Hown.out hb5')
        have HB4 := Lib.hid (then_bel Hb.out hb5')
        clear hb5 hb5' d0 d1 d2 d3 d4 e0 e1 e2
        go_wp2_with fail
        go_roundw
        case rel => exact ⟨k + 1, by omega, by go_num, Lib.hid (by rw [HI.out]; exact HO5.out), HB4⟩
        case measure => simp [intOf]; omega
    · obtain rfl : k = m := by omega
      have HT : Hid (l.take k = l) := Lib.hid (by rw [← Hlen.out]; exact List.take_length)
      go_wp2_with fail
      go_ret
      refine ⟨_, rfl, ?_, HbA.out.trans (Hb.out.mono HbA.out.size)⟩
      have := Hown.out.base (M' := w.heap.size) (by omega)
      rw [HT.out] at this
      exact this
end Go.Proofs.YthjcifokmcbaoaaGreatDoor.st
/- What Apply gives is short. No walk; no conditions. -/
namespace Go.Proofs.YthjcifokmcbaoaaGreatDoor.st
open Go.ChangeShapes Go.WideShapes Go.ChangeAt Go.RowKit gl ls
theorem nil_le : ([] : List UInt8).length ≤ 2147483647 := by decide
theorem word_len {x : List UInt8} (h : wordL x = true) : x.length ≤ 32 := by
  unfold wordL at h
  simp only [Bool.and_eq_true, decide_eq_true_eq] at h
  exact h.2.2
theorem may_sz {R : List Pr} (h : mayL R = true) : (∀ x ∈ R, PrSz x) ∧ R.length ≤ 500 := by
  obtain ⟨h1, h2, _⟩ := may_parts h
  refine ⟨fun x hx => ?_, h1⟩
  obtain ⟨a, b, c⟩ := h2 x hx
  have := word_len a
  have := word_len b
  exact ⟨by omega, by omega, by omega⟩
theorem out_sz {l R : List Pr} {s : Sp} {E : Int} (h : applyL l s = (R, E)) : (∀ x ∈ R, PrSz x) ∧ R.length ≤ 500 := by
  by_cases h0 : E = 0
  · have h1 : (applyL l s).2 = 0 := by rw [h]; exact h0
    have := apply_may h1
    rw [h] at this
    exact may_sz this
  · have h1 : (applyL l s).2 ≠ 0 := by rw [h]; exact h0
    have := apply_err h1
    rw [h] at this
    simp only at this
    subst this
    exact ⟨fun x hx => (by cases hx), by simp⟩
end Go.Proofs.YthjcifokmcbaoaaGreatDoor.st
/- BaseMakes returns true. Conditions: the numbers lie in memory; the listed variables hold what the program's text lays. -/
namespace Go.Proofs.YthjcifokmcbaoaaGreatDoor.st
open Go.ChangeShapes Go.WideShapes Go.ChangeAt Go.RowKit gl ls

/-- Numbers in memory. -/
def Ints (w : World) (v : Value) (n : Nat) : Prop := ∃ p c, v = .slice p n c ∧ n ≤ c ∧ (n = 0 ∨ ∃ b o, p = some ⟨b, o, none⟩ ∧ b < w.heap.size ∧ ∀ j, j < n → ∃ x : Int, w.cell? ⟨b, o + j, none⟩ = some (.int .i64 x) ∧ -9223372036854775808 ≤ x ∧ x ≤ 9223372036854775807)
theorem Ints.later {w w' : World} {v : Value} {n : Nat} (h : Ints w v n) (hb : Below w.heap.size w w') : Ints w' v n := by
  obtain ⟨p, c, rfl, hc, h⟩ := h
  refine ⟨p, c, rfl, hc, ?_⟩
  rcases h with h | ⟨b, o, rfl, hlt, hat⟩
  · exact .inl h
  · refine .inr ⟨b, o, rfl, by have := hb.size; omega, fun j hj => ?_⟩
    obtain ⟨x, h1, h2⟩ := hat j hj
    exact ⟨x, (hb.cell (p := ⟨b, o + j, none⟩) hlt).trans h1, h2⟩
/-- The marks of what is made. -/
def Marks (g : Nat) (w : World) (made : List Bool) : Prop := w.heap[g]? = some (.cells (made.map Value.bool).toArray 4 (0, 0))
theorem Marks.later {g : Nat} {w w' : World} {made : List Bool} (h : Marks g w made) (hb : Below w.heap.size w w') : Marks g w' made := (hb.block g (lt_of_block h)).trans h
theorem Marks.cell {g : Nat} {w : World} {made : List Bool} {j : Nat} {x : Bool} (h : Marks g w made) (hx : made[j]? = some x) : w.cell? ⟨g, j, none⟩ = some (.bool x) := by
  rw [cell_in h, List.getElem?_toArray, List.getElem?_map, hx]
  rfl
theorem Marks.set {g : Nat} {w : World} {made : List Bool} (h : Marks g w made) (j : Nat) : Marks g (w.setCell ⟨g, j, none⟩ (.bool true)) (made.set j true) := by
  have := heap_set (o := j) h (.bool true)
  unfold Marks
  rw [this]
  congr 2
  rw [List.setIfInBounds_toArray, List.map_set]
theorem infoB : (Tryz.prog.info? 4).map (fun i => (i.zero, i.size, i.bytes)) = some (some (.bool false), 1, 1) := by kernel_rfl
theorem make6 (w : World) : (Instr.makeSlice 64 (.int .i64 6) (.int .i64 6)).run Tryz.prog w = .ok (.slice (some ⟨w.heap.size, 0, none⟩) 6 6) (w.alloc (.cells #[.bool false, .bool false, .bool false, .bool false, .bool false, .bool false] 4)) := by
  obtain ⟨i, hi, he⟩ := Option.map_eq_some_iff.1 infoB
  simp only [Prod.mk.injEq] at he
  obtain ⟨hz, h1, h8⟩ := he
  have h := run_make (P := Tryz.prog) w 64 4 i (.bool false) Tryz.underlying64 hi hz .i64 .i64 6 6 (by omega) (by omega) (by rw [h8]; omega) (by omega)
  have hc : madeCells (Value.cells (.bool false)) (Int.toNat 6 * 1) = #[.bool false, .bool false, .bool false, .bool false, .bool false, .bool false] := by kernel_rfl
  rw [h, h1, hc]
  rfl
theorem states_len : ∀ (n : Nat) (st : List Bool × List Pr), st ∈ states n → st.1.length = 6
  | 0, st, h => by rw [List.mem_singleton.1 h]; rfl
  | n + 1, st, h => by
    obtain ⟨s0, h0, h1⟩ := List.mem_flatMap.1 h
    obtain ⟨i, _, h2⟩ := List.mem_filterMap.1 h1
    unfold nextSt at h2
    obtain ⟨L, _, rfl⟩ := Option.map_eq_some_iff.1 h2
    have := states_len n s0 h0
    simpa using this
theorem low_base : Low baseL := by
  intro x hx
  simp only [baseL, List.mem_cons, List.not_mem_nil, or_false] at hx
  rcases hx with rfl | rfl | rfl | rfl | rfl | rfl <;> exact ⟨by decide, by decide⟩
theorem infoIt : (Tryz.prog.info? 3).map (fun i => (i.zero, i.size, i.bytes)) = some (some (.int .i64 0), 1, 8) := by kernel_rfl
theorem run_next {L Lf : List Pr} {s : Sp} {r : List Sp} (h : allOk L (s :: r) = some Lf) : (applyL L s).2 = 0 ∧ allOk (applyL L s).1 r = some Lf := by
  unfold allOk at h
  split at h
  · exact ⟨‹_›, h⟩
  · cases h
theorem NewPrs.far {M : Nat} {w : World} {v : Value} {l : List Pr} (h : NewPrs M w v l) (a : Addr) (u : Value) (hn : a.block < M) : NewPrs M (w.setCell a u) v l := by
  rcases h with h | ⟨g, c, cs, rfl, hc, hg, hbk, h2⟩
  · exact .inl h
  · exact .inr ⟨g, c, cs, rfl, hc, hg, (heap_setCell_other w a g u (by omega)).trans hbk, h2⟩
theorem own_cells {w : World} {B n : Nat} {e : TypeId} {g c : Nat} {xs : List Value} (h : w.ownsRow B e 1 (.slice (some ⟨g, 0, none⟩) n c) n xs) {r : Nat} {u : Value} (hr : xs[r]? = some u) : w.cell? ⟨g, r, none⟩ = some u := by
  have := h.cells (g := g) rfl r u hr
  rwa [addN, Nat.zero_add] at this
set_option maxHeartbeats 16000000 in
set_option maxRecDepth 100000 in
theorem baseMakes_any (v : Value) (n : Nat) (hn : n ≤ 9223372036854775807) (w : World) (hR : Ints w v n) (hS : Slo w) :
    Calls Tryz.prog 11 #[v] w fun e w' => e = .returned (.bool true) ∧ Below w.heap.size w w' := by
  have HI := Lib.hid hR
  have HSl := Lib.hid fun (W : World) (hb : Below w.heap.size w W) => hS.later hb
  obtain ⟨pr, cr, rfl, hcr, _⟩ := hR
  have hms := make6
  obtain ⟨ib, hib, zb0, zb1, zb2⟩ := info_parts infoB
  obtain ⟨ii, hii, zi0, zi1, zi2⟩ := info_parts infoIt
  clear hS
  go_enter Tryz.func11, Tryz.ntmps11
  go_wp2_with fail
  refine (moves_any w).mono ?_
  rintro e w1 ⟨⟨v1, R1, rfl, h1⟩, hb1⟩
  obtain ⟨p1, c1, rfl⟩ := rw.NewRw.form h1.1
  have hl1 : R1.length = 6 := h1.2.1
  rw [hl1] at h1 ⊢
  have H1 := Lib.hid h1
  have HB1 := Lib.hid hb1
  clear h1 hb1
  go_wp2_with fail
  refine (base_any w1).mono ?_
  rintro e w2 ⟨⟨v2, R2, rfl, h2⟩, hb2⟩
  obtain ⟨p2, c2, rfl⟩ := rw.NewRw.form h2.1
  have hl2 : R2.length = 6 := h2.2.1
  rw [hl2] at h2 ⊢
  have H2 := Lib.hid h2
  have H12 := Lib.hid (H1.out.later hb2)
  have HB2 := Lib.hid (then_bel HB1.out hb2)
  clear h2 hb2
  go_wp2_with fail
  refine (moves18_any _ _ p1 p2 6 c1 c2 R1 R2 baseL (by omega) low_base w2 H12.out H2.out).mono ?_
  rintro e w3 ⟨rfl, hb3⟩
  have H13 := Lib.hid (H12.out.later hb3)
  have HB3 := Lib.hid (then_bel HB2.out hb3)
  clear hb3 H1 H2 H12
  obtain ⟨b1, o1, rfl, hbl1⟩ := (H13.out.1.rw mvC_len).ptr.2.2 (by omega)
  obtain ⟨w4, hw4⟩ : ∃ w4, w4 = w3.alloc (.cells #[.bool false, .bool false, .bool false, .bool false, .bool false, .bool false] 4) := ⟨_, rfl⟩
  have hk4 : Marks w3.heap.size w4 [false, false, false, false, false, false] := by rw [hw4]; exact heap_alloc_new w3 _
  have hb4 : Below w3.heap.size w3 w4 := by rw [hw4]; exact (Below.refl _ _).alloc (Nat.le_refl _) _
  have hz4 : w3.heap.size < w4.heap.size := by rw [hw4]; simp
  go_wp2_with fail
  rw [← hw4]
  have HK4 := Lib.hid hk4
  have HB34 := Lib.hid hb4
  clear hw4 hk4 hb4 hms
  go_loopw [7, 8] (fun pv i wr => ∃ (k mp : Nat) (made : List Bool) (L : List Pr) (pp : Option Addr) (cp : Nat), k ≤ 6 ∧ i = .int .i64 k ∧ pv = .slice pp mp cp ∧ mp ≤ 500 ∧ Hid (NewPrs w4.heap.size wr (.slice pp mp cp) L) ∧ Hid ((made, L) ∈ states k) ∧ Hid (∀ x ∈ L, PrSz x) ∧ Hid (Marks w3.heap.size wr made) ∧ Hid (Below w3.heap.size w3 wr) ∧ w4.heap.size ≤ wr.heap.size) (fun _ i _ => 6 - (intOf i).toNat)
  case atStart => exact ⟨0, 0, _, [], none, 0, by omega, rfl, rfl, by omega, Lib.hid (.inl ⟨rfl, rfl⟩), Lib.hid (List.mem_singleton.2 rfl), Lib.hid (fun x hx => by cases hx), HK4, HB34, Nat.le_refl _⟩
  case round =>
    clear HK4 HB34
    obtain ⟨k, mp, made, L, pp, cp, hk, rfl, rfl, hmp, HL, HSt, HLz, HK, Hb, hz⟩ := hrel
    obtain ⟨wO, hwO⟩ : ∃ wO, wO = wr := ⟨_, rfl⟩
    subst hwO
    have hml := states_len _ _ HSt.out
    simp only at hml
    by_cases hlt : k < 6
    · have hki : (k : Int) < 6 := by omega
      have hk5 : (0 : Int) ≤ (k : Int) := by omega
      go_wp2_with fail
      go_loopw [9, 10] (fun mw i wx => ∃ (t : Nat) (mv : Value), t ≤ 6 ∧ i = .int .i64 t ∧ mv = mw ∧ Hid (wx.ownsRow wO.heap.size 3 1 mv (mayTo made t).length ((mayTo made t).map fun (i : Nat) => Value.int .i64 (i : Int))) ∧ Hid (Below wO.heap.size wO wx)) (fun _ i _ => 6 - (intOf i).toNat)
      case atStart => exact ⟨0, _, by omega, rfl, rfl, Lib.hid ⟨rfl, .inl ⟨rfl, rfl⟩⟩, Lib.hid (Below.refl _ _)⟩
      case round =>
        obtain ⟨t, mv, ht, rfl, rfl, Ho, Hbx⟩ := hrel
        obtain ⟨wX, hwX⟩ : ∃ wX, wX = wr := ⟨_, rfl⟩
        subst hwX
        have hzx := Hbx.out.size
        have Hb3 := Lib.hid (Hb.out.trans (Hbx.out.mono (by omega)))
        by_cases hlt2 : t < 6
        · obtain ⟨x, hx⟩ : ∃ x, R1[t]? = some x := ⟨_, List.getElem?_eq_getElem (by rw [hl1]; exact hlt2)⟩
          obtain ⟨z, hzb⟩ : ∃ z, baseL[t]? = some z := ⟨_, List.getElem?_eq_getElem (by exact hlt2)⟩
          obtain ⟨a, ha⟩ : ∃ a, made[t]? = some a := ⟨_, List.getElem?_eq_getElem (by rw [hml]; exact hlt2)⟩
          have cm := (HK.out.later Hbx.out).cell ha
          obtain ⟨k0, k1, k2⟩ := mv_cells ((H13.out.later Hb3.out).1.rw mvC_len) hx
          have hti : (t : Int) < 6 := by omega
          have ht5 : (0 : Int) ≤ (t : Int) := by omega
          have hw3x : w3.heap.size < wX.heap.size := by omega
          have hb1x : b1 < wX.heap.size := by omega
          obtain ⟨_, g2, _⟩ := (H13.out.later Hb3.out).2.2 t x z hx hzb
          have tx := g2.rw txC_len
          have e1 := tx.ptr.1
          have hnn := (low_base z (List.mem_of_getElem? hzb)).1
          obtain ⟨xi, pn, nn, cn, ps, ns, cs⟩ := x
          simp only [MvR.vn, MvR.vs] at k1 k2 tx e1
          rw [e1] at hnn
          have HTx := Lib.hid tx
          have Hptx := Lib.hid tx.ptr.2.2
          have He1 := Lib.hid e1
          have Hzb := Lib.hid hzb
          have Ha := Lib.hid ha
          clear hx hzb g2 tx e1 ha
          go_wp2_with fail
          go_loopw [11, 12] (fun rv i wy => ∃ kk q : Nat, kk ≤ nn ∧ i = .int .i64 kk ∧ rv = .bool ((z.needs.take kk).foldl (fun r need => r && doneTo made need 6) (!a)) ∧ wy = wX.drewN q) (fun _ i _ => nn - (intOf i).toNat)
          case atStart => exact ⟨0, 0, by omega, rfl, rfl, rfl⟩
          case round =>
            obtain ⟨kk, q, hkk, rfl, rfl, rfl⟩ := hrel
            replace cm : (wX.drewN q).cell? ⟨w3.heap.size, t, none⟩ = some (.bool a) := cm
            replace k1 : (wX.drewN q).cell? ⟨b1, o1 + t * 3 + 1, none⟩ = some (.slice pn nn cn) := k1
            obtain ⟨rdy, hrdy⟩ : ∃ rdy, rdy = (z.needs.take kk).foldl (fun r need => r && doneTo made need 6) (!a) := ⟨_, rfl⟩
            rw [← hrdy]
            have Hrdy := Lib.hid hrdy
            clear hrdy
            by_cases hlt3 : kk < nn
            · obtain ⟨need, hnd⟩ : ∃ need, z.needs[kk]? = some need := ⟨_, List.getElem?_eq_getElem (by rw [He1.out]; exact hlt3)⟩
              have hkki : (kk : Int) < (nn : Int) := by omega
              have hkk5 : (0 : Int) ≤ (kk : Int) := by omega
              obtain ⟨wY, hwY⟩ : ∃ wY, wY = wX.drewN q := ⟨_, rfl⟩
              rw [← hwY] at cm k1 ⊢
              have HwY := Lib.hid hwY
              have hw3y : w3.heap.size < wY.heap.size := by rw [hwY]; exact hw3x
              have hb1y : b1 < wY.heap.size := by rw [hwY]; exact hb1x
              clear hwY
              go_wp2_with fail
              go_loopw [13, 14] (fun dv i wy => ∃ j r : Nat, j ≤ 6 ∧ i = .int .i64 j ∧ dv = .bool (doneTo made need j) ∧ wy = wY.drewN r) (fun _ i _ => 6 - (intOf i).toNat)
              case atStart => exact ⟨0, 0, by omega, rfl, rfl, rfl⟩
              case round =>
                obtain ⟨j, r, hj, rfl, rfl, rfl⟩ := hrel
                by_cases hlt4 : j < 6
                · obtain ⟨xj, hxj⟩ : ∃ xj, R1[j]? = some xj := ⟨_, List.getElem?_eq_getElem (by rw [hl1]; exact hlt4)⟩
                  obtain ⟨zj, hzj⟩ : ∃ zj, baseL[j]? = some zj := ⟨_, List.getElem?_eq_getElem (by exact hlt4)⟩
                  obtain ⟨mj, hmj⟩ : ∃ mj, made[j]? = some mj := ⟨_, List.getElem?_eq_getElem (by rw [hml]; exact hlt4)⟩
                  have hbY : Below wX.heap.size wX (wY.drewN r) := by rw [HwY.out, World.drewN_drewN]; exact drewN_bel wX _
                  have Hb3y : Below w3.heap.size w3 (wY.drewN r) := Hb3.out.trans (hbY.mono (by omega))
                  have cj := (HK.out.later (Hbx.out.trans (hbY.mono hzx))).cell hmj
                  obtain ⟨m0, _, _⟩ := mv_cells ((H13.out.later Hb3y).1.rw mvC_len) hxj
                  have gid := ((H13.out.later Hb3y).2.2 j xj zj hxj hzj).1
                  rw [gid] at m0
                  obtain ⟨bn, on, rfl, hbn⟩ := Hptx.out (by omega)
                  have cnd := txt_cell (HTx.out.later hbY) hnd
                  have hq : ((B zj.id).toList == (B need).toList) = decide (zj.id = need) := by rw [seq_dec]
                  have hst := done_step made need j
                  rw [hmj, hzj] at hst
                  simp only [Option.getD_some, Option.map_some, Option.some.injEq] at hst
                  have Hst := Lib.hid hst
                  replace k1 : (wY.drewN r).cell? ⟨b1, o1 + t * 3 + 1, none⟩ = some (.slice (some ⟨bn, on, none⟩) nn cn) := k1
                  have hji : (j : Int) < 6 := by omega
                  have hj5 : (0 : Int) ≤ (j : Int) := by omega
                  clear hxj hzj hmj gid hst hnd
                  generalize decide (zj.id = need) = dq at *
                  generalize B zj.id = u1' at *
                  generalize B need = u2' at *
                  generalize doneTo made need j = dn at *
                  obtain ⟨wZ, hwZ⟩ : ∃ wZ, wZ = wY.drewN r := ⟨_, rfl⟩
                  rw [← hwZ] at cj m0 cnd k1 ⊢
                  have HwZ := Lib.hid hwZ
                  have hw3z : w3.heap.size < wZ.heap.size := by rw [hwZ]; exact hw3y
                  have hb1z : b1 < wZ.heap.size := by rw [hwZ]; exact hb1y
                  have hbnz : bn < wZ.heap.size := by rw [hwZ, HwY.out]; exact hbn
                  clear hwZ hbY Hb3y hbn
                  cases dn <;> cases mj <;> cases dq <;> (
                    go_wp2_with fail
                    go_quiet (fail)
                    go_wp2_with fail
                    go_roundw
                    case rel => exact ⟨j + 1, _, by omega, by go_num, by rw [Hst.out]; rfl, by rw [HwZ.out, World.drewN_drewN]⟩
                    case measure => simp [intOf]; omega)
                · obtain rfl : j = 6 := by omega
                  have hfs : (z.needs.take (kk + 1)).foldl (fun r need => r && doneTo made need 6) (!a) = (rdy && doneTo made need 6) := by rw [take_at hnd, List.foldl_append, ← Hrdy.out]; rfl
                  have Hfs := Lib.hid hfs
                  clear hfs hnd
                  generalize hdn : doneTo made need 6 = dn at *
                  clear hdn
                  cases rdy <;> cases dn <;> (
                    go_wp2_with fail
                    go_roundw
                    case rel => exact ⟨kk + 1, _, by omega, by go_num, by rw [Hfs.out]; rfl, by rw [HwY.out, World.drewN_drewN]⟩
                    case measure => simp [intOf]; omega)
            · obtain rfl : kk = nn := by omega
              have hrr : rdy = readyAt made t := by
                rw [Hrdy.out, List.take_of_length_le (by rw [He1.out]; exact Nat.le_refl _)]
                unfold readyAt readyTo
                rw [Hzb.out]
                simp only
                rw [Ha.out]
                rfl
              have hst := may_step made t
              rw [← hrr] at hst
              have hml2 : (mayTo made t).length ≤ t := Nat.le_trans (List.length_filter_le _ _) (by simp)
              obtain ⟨wY, hwY⟩ : ∃ wY, wY = wX.drewN q := ⟨_, rfl⟩
              rw [← hwY] at cm k1 ⊢
              have hown : wY.ownsRow wO.heap.size 3 1 mv (mayTo made t).length ((mayTo made t).map fun (i : Nat) => Value.int .i64 (i : Int)) := by rw [hwY]; exact Ho.out
              have hbY : Below wO.heap.size wO wY := by rw [hwY]; exact Hbx.out.trans ((drewN_bel wX q).mono hzx)
              have hzY := hbY.size
              clear hwY
              cases rdy with
              | false =>
                simp only [Bool.false_eq_true, if_false] at hst
                have Hst := Lib.hid hst
                have Hown := Lib.hid hown
                have HbY := Lib.hid hbY
                clear hst hown hbY hrr
                go_wp2_with fail
                go_roundw
                case rel => exact ⟨t + 1, _, by omega, by go_num, rfl, by rw [Hst.out]; exact Hown, HbY⟩
                case measure => simp [intOf]; omega
              | true =>
                simp only [if_true] at hst
                have Hst := Lib.hid hst
                have Hown := Lib.hid hown
                have HbY := Lib.hid hbY
                obtain ⟨q0, hq0⟩ : ∃ q0, q0 = (mayTo made t).length := ⟨_, rfl⟩
                rw [← hq0] at Hown hml2
                have Hq0 := Lib.hid hq0
                clear hst hown hbY hrr hq0
                focus
                  go_wp2_with (at_builtin; go_must (refine wpList_append_lit rfl _ _ 63 rfl 3 ii _ 8 Tryz.underlying63 hii zi0 zi1 zi2 rfl _ 1 (by omega) (by rfl) (by rfl) wO.heap.size _ q0 _ (by rfl) Hown.out (by simp [Value.oneCell']) (by omega) (by omega) (by omega) ?_))
                intro g cap w5 hown hgrow _ _ _
                have Hown5 := Lib.hid hown
                have HB5 := Lib.hid (below_grown_own HbY.out Hown.out hgrow hzY)
                clear hown hgrow
                go_wp2_with fail
                go_roundw
                case rel => exact ⟨t + 1, _, by omega, by go_num, rfl, by rw [Hst.out, List.length_append, List.map_append, ← Hq0.out]; exact Hown5, HB5⟩
                case measure => simp [intOf]; omega
        · obtain rfl : t = 6 := by omega
          obtain ⟨hne, hall⟩ := states_good (n := k) (by omega) HSt.out
          simp only at hne hall
          have HAll := Lib.hid hall
          obtain ⟨q6, hq6⟩ : ∃ q6, q6 = (mayTo made 6).length := ⟨_, rfl⟩
          have hq0 : 0 < q6 := by rw [hq6]; exact List.length_pos_iff.2 hne
          have hq7 : q6 ≤ 6 := by rw [hq6]; exact Nat.le_trans (List.length_filter_le _ _) (by simp)
          rw [← hq6] at Ho
          obtain ⟨g, cm, rfl⟩ : ∃ g cm, mv = .slice (some ⟨g, 0, none⟩) q6 cm := by
            rcases Ho.out.2 with ⟨_, h0⟩ | ⟨g, cap, cur, rfl, _⟩
            · omega
            · exact ⟨g, cap, rfl⟩
          have HC6 : Hid (∀ r : Nat, r < q6 → ∃ i : Nat, i ∈ mayTo made 6 ∧ wX.cell? ⟨g, r, none⟩ = some (.int .i64 (i : Int))) := Lib.hid fun r hr => by
            rw [hq6] at hr
            refine ⟨(mayTo made 6)[r], List.getElem_mem hr, own_cells Ho.out ?_⟩
            rw [List.getElem?_map, List.getElem?_eq_getElem hr]
            rfl
          obtain ⟨_, _, c00⟩ := HC6.out 0 hq0
          have hgl : g < wX.heap.size := World.block_lt_of_cell? _ _ c00
          clear hne hall hq6 c00 Ho
          have hqt : ((q6 : Int) == 0) = false := by simp; omega
          have hq2 : (0 : Int) < (q6 : Int) := by omega
          have HKx := Lib.hid (HK.out.later Hbx.out)
          have HLx := Lib.hid (HL.out.later Hbx.out)
          have HRx := Lib.hid ((HI.out.later (HB3.out.trans (Hb3.out.mono HB3.out.size))))
          by_cases hkn : k < n
          case' pos =>
            obtain ⟨pr', cr', he, _, hr⟩ := HRx.out
            cases he
            rcases hr with rfl | ⟨br, or_, rfl, hbr, hat⟩
            · omega
            obtain ⟨x, cx, hx1, hx2⟩ := hat k hkn
            have Hat := Lib.hid hat
            clear hat
            have hkn1 : (k : Int) < (n : Int) := by omega
            have hkn2 : (0 : Int) ≤ (k : Int) := by omega
            have hkn3 : decide ((k : Int) < (n : Int)) = true := by rw [decide_eq_true_iff]; exact hkn1
            go_wp2_with fail
            refine (pick18_any x q6 (by omega) (by omega) hx1 hx2 wX).mono ?_
          case' neg =>
            have hkn3 : decide ((k : Int) < (n : Int)) = false := by rw [decide_eq_false_iff_not]; omega
            have hkn1 : ¬ ((k : Int) < (n : Int)) := by omega
            go_wp2_with fail
            refine (pick18_any 0 q6 (by omega) (by omega) (by omega) (by omega) wX).mono ?_
          all_goals
            rintro e wP ⟨⟨rz, rfl, hr0, hr1⟩, hwP⟩
            obtain rfl : wX = wP := hwP.symm
            clear hwP
            obtain ⟨rn, rfl⟩ : ∃ rn : Nat, rz = (rn : Int) := ⟨rz.toNat, by omega⟩
            have hrn : rn < q6 := by omega
            obtain ⟨mi, hmi, cmi⟩ := HC6.out rn hrn
            have hmi6 : mi < 6 := may_lt hmi
            obtain ⟨Lf, hLf, hSf⟩ := HAll.out mi hmi
            have HLf := Lib.hid hLf
            have HSf := Lib.hid hSf
            have Hmi := Lib.hid hmi
            clear hLf hSf hmi
            obtain ⟨a, ha⟩ : ∃ a, made[mi]? = some a := ⟨_, List.getElem?_eq_getElem (by rw [hml]; exact hmi6)⟩
            have cmade := HKx.out.cell ha
            have cfree : wX.frozen? ⟨w3.heap.size, mi, none⟩ = false := free_in HKx.out
            obtain ⟨x, hx⟩ : ∃ x, R1[mi]? = some x := ⟨_, List.getElem?_eq_getElem (by rw [hl1]; exact hmi6)⟩
            obtain ⟨z, hzb⟩ : ∃ z, baseL[mi]? = some z := ⟨_, List.getElem?_eq_getElem (by exact hmi6)⟩
            obtain ⟨wN, hwN⟩ : ∃ wN, wN = wX.setCell ⟨w3.heap.size, mi, none⟩ (.bool true) := ⟨_, rfl⟩
            have HKN : Hid (Marks w3.heap.size wN (made.set mi true)) := Lib.hid (by rw [hwN]; exact HKx.out.set mi)
            have HLN : Hid (NewPrs w4.heap.size wN (.slice pp mp cp) L) := Lib.hid (by rw [hwN]; exact NewPrs.far HLx.out _ _ hz4)
            have HbN : Hid (Below w3.heap.size w3 wN) := Lib.hid (by rw [hwN]; exact Hb3.out.setCell (Nat.le_refl _) _)
            have hzN : wN.heap.size = wX.heap.size := by rw [hwN]; simp [World.setCell]
            have HMN := Lib.hid (H13.out.later HbN.out)
            have hstp : stepsOf mi = z.steps := by unfold stepsOf; rw [hzb]
            rw [hstp] at HLf
            obtain ⟨_, _, g3⟩ := HMN.out.2.2 mi x z hx hzb
            obtain ⟨_, _, k2⟩ := mv_cells (HMN.out.1.rw mvC_len) hx
            have st := g3.rw spC_len
            have e2 := st.ptr.1
            have hptr := st.ptr.2.2
            obtain ⟨xi, pn, nn, cn, ps, ns, cs⟩ := x
            simp only [MvR.vs] at k2 st e2 hptr
            have hzs : ∀ s ∈ z.steps, SpSz s := stepsSz z (List.mem_of_getElem? hzb)
            have hns := (low_base z (List.mem_of_getElem? hzb)).2
            rw [e2] at hns
            have HSt2 := Lib.hid st
            have Hptr2 := Lib.hid hptr
            have He2 := Lib.hid e2
            have Hzs := Lib.hid hzs
            have Hwn := Lib.hid hwN
            have Hx := Lib.hid hx
            have Hzb := Lib.hid hzb
            have Hk2 := Lib.hid k2
            clear ha hx hzb hstp g3 st e2 hptr hzs
            have hmi1 : (mi : Int) < 6 := by omega
            have hmi2 : (0 : Int) ≤ (mi : Int) := by omega
            have hb1N : b1 < wN.heap.size := by omega
            go_wp2_with fail
            rw [← Hwn.out]
            clear cmade cfree cmi hwN
            go_loopw [7, 17] (fun pv i wr => ∃ (kk mq : Nat) (Lk : List Pr) (pq : Option Addr) (cq : Nat), kk ≤ ns ∧ i = .int .i64 kk ∧ pv = .slice pq mq cq ∧ mq ≤ 500 ∧ Hid (NewPrs w4.heap.size wr (.slice pq mq cq) Lk) ∧ Hid (allOk Lk (z.steps.drop kk) = some Lf) ∧ Hid (∀ x ∈ Lk, PrSz x) ∧ Hid (Below wN.heap.size wN wr)) (fun _ i _ => ns - (intOf i).toNat)
            case atStart => exact ⟨0, mp, L, pp, cp, by omega, rfl, rfl, hmp, HLN, HLf, HLz, Lib.hid (Below.refl _ _)⟩
            case round =>
              obtain ⟨kk, mq, Lk, pq, cq, hkk, rfl, rfl, hmq, HLk, HOk, HLkz, HbR⟩ := hrel
              have hzr := HbR.out.size
              replace k2 := cell_then Hk2.out HbR.out
              have hb1r : b1 < wr.heap.size := by omega
              by_cases hlt5 : kk < ns
              · obtain ⟨bs, os, rfl, hbs⟩ := Hptr2.out (by omega)
                obtain ⟨s, hs⟩ : ∃ s, z.steps[kk]? = some s := ⟨_, List.getElem?_eq_getElem (by rw [He2.out]; exact hlt5)⟩
                obtain ⟨s0, s1, s2, s3, s4⟩ := sps_cells (HSt2.out.later HbR.out) hs
                have hok := HOk.out
                rw [drop_at hs] at hok
                obtain ⟨hok1, hok2⟩ := run_next hok
                have HOk2 := Lib.hid hok2
                have HSz := Lib.hid (Hzs.out s (List.mem_of_getElem? hs))
                have HApp := Lib.hid (Apply_any pq mq cq Lk s (by omega) HLkz.out HSz.out wr (HSl.out wr (HB3.out.trans ((HbN.out.trans (HbR.out.mono HbN.out.size)).mono HB3.out.size))) (HLk.out.rw prC_len))
                rw [hok1] at HApp
                unfold spA at HApp
                obtain ⟨RR, hRR⟩ : ∃ RR, RR = (applyL Lk s).1 := ⟨_, rfl⟩
                rw [← hRR] at HApp HOk2
                have hout := out_sz (l := Lk) (s := s) (R := RR) (E := 0) (by rw [hRR, ← hok1])
                have HRRz := Lib.hid hout.1
                have hRRn := hout.2
                have HHs := Lib.hid hs
                clear hok hok1 hok2 hRR hout hs
                generalize s.kind = sk at *
                generalize B s.table = y1 at *
                generalize B s.key = y2 at *
                generalize B s.to = y3 at *
                generalize B s.text = y4 at *
                have hkk1 : (kk : Int) < (ns : Int) := by omega
                have hkk2 : (0 : Int) ≤ (kk : Int) := by omega
                have hbsr : bs < wr.heap.size := by omega
                go_wp2_with fail
                refine HApp.out.mono ?_
                rintro e w5 ⟨⟨v5, rfl, hv5⟩, hb5⟩
                obtain ⟨p5, c5, rfl⟩ := hv5.form
                have HV5 := Lib.hid (hv5.mono (M' := w4.heap.size) (by omega))
                have HB5 := Lib.hid (then_bel HbR.out hb5)
                obtain ⟨n5, hn5⟩ : ∃ n5, n5 = RR.length := ⟨_, rfl⟩
                rw [← hn5] at HV5 hRRn ⊢
                clear hv5 hb5 hn5
                go_wp2_with fail
                go_roundw
                case rel => exact ⟨kk + 1, n5, RR, p5, c5, by omega, by go_num, rfl, hRRn, HV5, HOk2, HRRz, HB5⟩
                case measure => simp [intOf]; omega
              · obtain rfl : kk = ns := by omega
                have hok := HOk.out
                rw [List.drop_of_length_le (by rw [He2.out]; exact Nat.le_refl _)] at hok
                unfold allOk at hok
                obtain rfl := Option.some.inj hok
                have HKr := Lib.hid (HKN.out.later HbR.out)
                have HBr := Lib.hid (HbN.out.trans (HbR.out.mono HbN.out.size))
                clear hok
                go_wp2_with fail
                go_roundw
                case rel => exact ⟨k + 1, mq, _, Lk, pq, cq, by omega, by go_num, rfl, hmq, HLk, HSf, HLkz, HKr, HBr, by omega⟩
                case measure => simp [intOf]; omega
    · obtain rfl : k = 6 := by omega
      have hlast := states_last HSt.out
      simp only at hlast
      subst hlast
      obtain rfl : 4 = mp := (HL.out.rw prC_len).ptr.1
      obtain ⟨w5, hw5⟩ : ∃ w5, w5 = wO.alloc (.cells #[.string ⟨#[101, 118, 101, 110, 116, 115]⟩, .string ⟨#[102, 105, 114, 115, 116]⟩, .string ⟨#[115, 116, 97, 114, 116, 101, 100]⟩, .string ⟨#[109, 101, 116, 97]⟩, .string ⟨#[118, 101, 114, 115, 105, 111, 110]⟩, .string ⟨#[49]⟩, .string ⟨#[117, 115, 101, 114, 115]⟩, .string ⟨#[97, 100, 109, 105, 110]⟩, .string ⟨#[82, 79, 79, 84]⟩, .string ⟨#[117, 115, 101, 114, 115]⟩, .string ⟨#[103, 117, 101, 115, 116]⟩, .string ⟨#[71, 85, 69, 83, 84]⟩] 57) := ⟨_, rfl⟩
      have hb5 : Below wO.heap.size wO w5 := by rw [hw5]; exact (Below.refl _ _).alloc (Nat.le_refl _) _
      have hz5 : w5.heap.size = wO.heap.size + 1 := by rw [hw5]; simp
      have ha5 : Prs w5 (.slice (some ⟨wO.heap.size, 0, none⟩) 4 4) lastL := by rw [hw5]; exact rw.rw_lit prC_len (l := lastL) (heap_alloc_new wO _) rfl
      have HA5 := Lib.hid ha5
      have HL5 := Lib.hid ((HL.out.later hb5).rw prC_len)
      have HB5 := Lib.hid hb5
      have HW5 := Lib.hid hw5
      obtain ⟨bp, op, rfl, hbp⟩ := HL5.out.ptr.2.2 (by omega)
      clear ha5 hb5 hw5
      go_wp2_with fail
      rw [← HW5.out]
      go_loopw [21] (fun i wr => ∃ j q : Nat, j ≤ 4 ∧ i = .int .i64 j ∧ wr = w5.drewN q) (fun i _ => 4 - (intOf i).toNat)
      case atStart => exact ⟨0, 0, by omega, rfl, rfl⟩
      case round =>
        obtain ⟨j, q, hj, rfl, rfl⟩ := hrel
        by_cases hlt6 : j < 4
        · obtain ⟨x, hx⟩ : ∃ x, lastL[j]? = some x := ⟨_, List.getElem?_eq_getElem (by exact hlt6)⟩
          obtain ⟨k0, k1, k2⟩ := prs_cells (HL5.out.later (drewN_bel w5 q)) hx
          obtain ⟨l0, l1, l2⟩ := prs_cells (HA5.out.later (drewN_bel w5 q)) hx
          simp only [Nat.zero_add] at l0 l1 l2
          have hne := fun W => neq_pr (B x.table) (B x.key) (B x.value) (B x.table) (B x.key) (B x.value) W
          simp only [beq_self_eq_true, Bool.and_self, Bool.not_true] at hne
          generalize B x.table = z1 at *
          generalize B x.key = z2 at *
          generalize B x.value = z3 at *
          have hji : (j : Int) < 4 := by omega
          have hj5 : (0 : Int) ≤ (j : Int) := by omega
          clear hx
          have hbpq : bp < (w5.drewN q).heap.size := hbp
          have hboq : wO.heap.size < (w5.drewN q).heap.size := by show _ < w5.heap.size; omega
          generalize hq : w5.drewN q = wr at *
          have Hq := Lib.hid hq
          clear hq
          go_wp2_with fail
          go_quiet (fail)
          go_wp2_with fail
          go_roundw
          case rel => exact ⟨j + 1, _, by omega, by go_num, by rw [← Hq.out, World.drewN_drewN]⟩
          case measure => simp [intOf]; omega
        · obtain rfl : j = 4 := by omega
          obtain ⟨w6, hw6⟩ : ∃ w6, w6 = w5.drewN q := ⟨_, rfl⟩
          rw [← hw6]
          have HB6 : Hid (Below w.heap.size w w6) := Lib.hid (by rw [hw6]; exact then_bel (HB3.out.trans ((Hb.out.trans (HB5.out.mono (Hb.out.size))).mono HB3.out.size)) (drewN_bel w5 q))
          clear hw6
          go_wp2_with fail
          refine (tables_any w6).mono ?_
          rintro e w7 ⟨⟨v7, rfl, h7⟩, hb7⟩
          obtain ⟨p7, c7, rfl⟩ := h7.form
          have hl7 : tabL.length = 3 := rfl
          rw [hl7] at h7 ⊢
          obtain ⟨w8, hw8⟩ : ∃ w8, w8 = w7.alloc (.cells #[.string ⟨#[101, 118, 101, 110, 116, 115]⟩, .string ⟨#[109, 101, 116, 97]⟩, .string ⟨#[117, 115, 101, 114, 115]⟩] 9) := ⟨_, rfl⟩
          have hb8 : Below w7.heap.size w7 w8 := by rw [hw8]; exact (Below.refl _ _).alloc (Nat.le_refl _) _
          have h8 : Txt w8 (.slice (some ⟨w7.heap.size, 0, none⟩) 3 3) tabL := by rw [hw8]; exact rw.rw_lit txC_len (l := tabL) (heap_alloc_new w7 _) rfl
          have HT := Lib.hid (texts18_same p7 _ 3 c7 3 tabL (by omega) w8 ((h7.later hb8).rw txC_len) h8)
          have HB8 := Lib.hid (then_bel (then_bel HB6.out hb7) hb8)
          have HW8 := Lib.hid hw8
          clear h7 hb7 hb8 h8 hw8
          go_wp2_with fail
          rw [← HW8.out]
          refine HT.out.mono ?_
          rintro e w9 ⟨rfl, q9, rfl⟩
          go_wp2_with fail
          go_ret
          exact ⟨rfl, then_bel HB8.out (drewN_bel w8 q9)⟩
end Go.Proofs.YthjcifokmcbaoaaGreatDoor.st
/- An argument that is a slice of structs whose fields take one cell each, opened: each element's cells and their readings. For any program; no conditions beside those stated. -/
namespace Go.Proofs.YthjcifokmcbaoaaGreatDoor
open Go.ChangeShapes Go.WideShapes Go.Deep Go.RowKit
section
variable {H : Type} {enc : TypeId × Value → H} {P : Program} {w : World} {base : Nat} {spare : Nat → Bool} {held : Bool}

/-- Each element of a slice of structs: its fields' cells, read. -/
theorem open_rows {t e : TypeId} {fs : Array Field} {v : Value} {d : DataW H} {ps : List MemPlace} (ht : P.underlying t = some (.slice e)) (he : P.underlying e = some (.struct fs))
    (hone : oneCellFields P fs = true) (hC : P.cellsOf e = fs.size) (h : DataW.Trod enc P w base spare held t v d ps) (hv : v.cells.toList = [v]) :
    v = .slice none 0 0 ∨ ∃ (a : Addr) (len cap : Nat), v = .slice (some a) len cap ∧ len ≤ cap ∧ cap ≤ maxLen ∧
      ∀ i, i < len → ∀ (j : Nat) (f : Field), fs[j]? = some f → ∃ (u : Value) (y : DataW H × List MemPlace) (n : Nat), w.cell? (a.add (i * fs.size + j)) = some u ∧ DataW.trod enc P w base spare held n f.type [u] = some y := by
  obtain ⟨fuel, hf⟩ := h
  rw [hv] at hf
  rcases open_slice ht hf with ⟨h0, _⟩ | ⟨a, len, cap, m, n, D, Pl, hcs, hb, hl, hm, hmm, hx, hi⟩
  · simp only [List.cons.injEq, and_true] at h0
    exact .inl h0
  · simp only [List.cons.injEq, and_true] at hcs
    refine .inr ⟨a, len, cap, hcs, hl, hm, fun i him j f hj => ?_⟩
    have him' : i < m := by rw [hmm]; split <;> omega
    obtain ⟨cs', hc, ht'⟩ := hi i him'
    rw [hC] at hc
    obtain ⟨ys, n', hn', hy, hlen, hyl, hf'⟩ := DataW.trod_struct he ht'
    obtain ⟨_, hcl, hat⟩ := World.cells?_some hc
    obtain ⟨ho, hk⟩ := hone_of hone j f hj
    have hjl : j < fs.size := (Array.getElem?_eq_some_iff.1 hj).1
    have hcell := hat j hjl
    have h1 := hf' j f hj
    rw [ho, hk] at h1
    have hone' : (cs'.drop j).take 1 = [cs'[j]'(by omega)] := by
      rw [List.drop_eq_getElem_cons (by omega)]
      rfl
    rw [hone'] at h1
    have hys : ys[j]? = some (ys[j]'(by omega)) := List.getElem?_eq_getElem (by omega)
    exact ⟨_, _, n', by rw [← Go.Deep.add_add, hcell, List.getElem?_eq_getElem (by omega)], h1.trans hys⟩
end

/-- A cell that holds something lies in no view. -/
theorem spot_none {w : World} {a : Addr} {v : Value} (h : w.cell? a = some v) : a.spot = none := by
  unfold World.cell? at h
  split at h
  · split at h
    · cases h
    · rename_i hs
      simpa using hs
  · cases h
theorem add_none {b off k : Nat} : (⟨b, off, none⟩ : Addr).add k = ⟨b, off + k, none⟩ := by
  unfold Addr.add
  split
  · rename_i h; revert h; simp
  · rfl
end Go.Proofs.YthjcifokmcbaoaaGreatDoor
/- Arguments that are pairs and steps, opened: their texts and numbers, and their cells in memory. No conditions. -/
namespace Go.Proofs.YthjcifokmcbaoaaGreatDoor.st
open Go.ChangeShapes Go.WideShapes Go.Deep Go.RowKit gl

theorem wf_b {n : Int} (h : (Lit.int .i64 n).wf = true) : -9223372036854775808 ≤ n ∧ n ≤ 9223372036854775807 := by
  have := h
  simp [Lit.wf, IntKind.min, IntKind.max, IntKind.signed, IntKind.bits] at this
  exact this
def PrOk (x : Pr) : Prop := x.table.length ≤ 9223372036854775807 ∧ x.key.length ≤ 9223372036854775807 ∧ x.value.length ≤ 9223372036854775807
def SpOk (x : Sp) : Prop := (-9223372036854775808 ≤ x.kind ∧ x.kind ≤ 9223372036854775807) ∧ x.table.length ≤ 9223372036854775807 ∧ x.key.length ≤ 9223372036854775807 ∧ x.to.length ≤ 9223372036854775807 ∧ x.text.length ≤ 9223372036854775807
def PairsOk (W : World) (p : Option Addr) (cap : Nat) (l : List Pr) : Prop := Prs W (.slice p l.length cap) l ∧ ∀ x ∈ l, PrOk x
def StepsOk (W : World) (p : Option Addr) (cap : Nat) (l : List Sp) : Prop := Sps W (.slice p l.length cap) l ∧ ∀ x ∈ l, SpOk x

instance : Inhabited Sp := ⟨⟨0, [], [], [], []⟩⟩
theorem pairs_of {H : Type} {enc : TypeId × Value → H} {W : World} {v : Value} {d : DataW H} {ps : List MemPlace} (h : DataW.Trod enc Tryz.prog W 0 (fun _ => true) true 44 v d ps) (hv : v.cells.toList = [v]) :
    ∃ p cap l, v = .slice p l.length cap ∧ l.length ≤ maxLen ∧ PairsOk W p cap l := by
  rcases open_rows Tryz.underlying44 Tryz.underlying57 (by kernel_rfl) (by kernel_rfl) h hv with h | ⟨a, len, cap, hs, hl, hm, hat⟩
  · exact ⟨none, 0, [], h, Nat.zero_le _, ⟨none, 0, rfl, Nat.le_refl _, .inl rfl⟩, fun x hx => by cases hx⟩
  · have hall : ∀ i, i < len → ∃ x : Pr, PrOk x ∧ ∃ b off, a = ⟨b, off, none⟩ ∧ b < W.heap.size ∧ ∀ (j : Nat) (u : Value), (prC x)[j]? = some u → W.cell? ⟨b, off + (i * 3 + j), none⟩ = some u := by
      intro i hi
      obtain ⟨u0, y0, n0, c0, t0⟩ := hat i hi 0 _ rfl
      obtain ⟨u1, y1, n1, c1, t1⟩ := hat i hi 1 _ rfl
      obtain ⟨u2, y2, n2, c2, t2⟩ := hat i hi 2 _ rfl
      obtain ⟨s0, e0, _, w0⟩ := DataW.trod_string Tryz.underlying9 t0
      obtain ⟨s1, e1, _, w1⟩ := DataW.trod_string Tryz.underlying9 t1
      obtain ⟨s2, e2, _, w2⟩ := DataW.trod_string Tryz.underlying9 t2
      simp only [List.cons.injEq, and_true] at e0 e1 e2
      subst e0 e1 e2
      obtain ⟨v0, y0', n0', z, _⟩ := hat 0 (by omega) 0 _ rfl
      have hsp : a.spot = none := by
        have := spot_none z
        simpa [Addr.add] using this
      obtain ⟨b, off, sp⟩ := a
      simp only at hsp
      subst hsp
      unfold maxLen at w0 w1 w2
      rw [add_none] at c0 c1 c2
      change W.cell? ⟨b, off + (i * 3 + 0), none⟩ = _ at c0
      change W.cell? ⟨b, off + (i * 3 + 1), none⟩ = _ at c1
      change W.cell? ⟨b, off + (i * 3 + 2), none⟩ = _ at c2
      refine ⟨⟨s0.data.toList, s1.data.toList, s2.data.toList⟩, ⟨by simp only [toList_len]; omega, by simp only [toList_len]; omega, by simp only [toList_len]; omega⟩, b, off, rfl, World.block_lt_of_cell? _ _ c0, fun j u hu => ?_⟩
      match j, hu with
      | 0, hu => obtain rfl := Option.some.inj hu; simp only [B_of]; exact c0
      | 1, hu => obtain rfl := Option.some.inj hu; simp only [B_of]; exact c1
      | 2, hu => obtain rfl := Option.some.inj hu; simp only [B_of]; exact c2
    obtain ⟨f, hf⟩ := Deep.choose_lt hall
    refine ⟨some a, cap, (List.range len).map f, by simpa using hs, by simp; omega, ⟨some a, cap, rfl, by simpa using hl, ?_⟩, fun x hx => ?_⟩
    · by_cases h0 : len = 0
      · subst h0
        exact .inl rfl
      · obtain ⟨_, b, off, rfl, hb, _⟩ := hf 0 (by omega)
        refine .inr ⟨b, off, rfl, hb, fun j x hx i u hu => ?_⟩
        simp only [List.getElem?_map, Option.map_eq_some_iff] at hx
        obtain ⟨k, hk, rfl⟩ := hx
        obtain ⟨hk1, rfl⟩ := List.getElem?_eq_some_iff.1 hk
        simp only [List.getElem_range] at hu
        obtain ⟨_, b', off', he, _, h2⟩ := hf j (by simpa using hk1)
        cases he
        exact h2 i u hu
    · obtain ⟨i, hi, rfl⟩ := List.mem_map.1 hx
      exact (hf i (List.mem_range.1 hi)).1
theorem steps_of {H : Type} {enc : TypeId × Value → H} {W : World} {v : Value} {d : DataW H} {ps : List MemPlace} (h : DataW.Trod enc Tryz.prog W 0 (fun _ => true) true 34 v d ps) (hv : v.cells.toList = [v]) :
    ∃ p cap l, v = .slice p l.length cap ∧ l.length ≤ maxLen ∧ StepsOk W p cap l := by
  rcases open_rows Tryz.underlying34 Tryz.underlying42 (by kernel_rfl) (by kernel_rfl) h hv with h | ⟨a, len, cap, hs, hl, hm, hat⟩
  · exact ⟨none, 0, [], h, Nat.zero_le _, ⟨none, 0, rfl, Nat.le_refl _, .inl rfl⟩, fun x hx => by cases hx⟩
  · have hall : ∀ i, i < len → ∃ x : Sp, SpOk x ∧ ∃ b off, a = ⟨b, off, none⟩ ∧ b < W.heap.size ∧ ∀ (j : Nat) (u : Value), (spC x)[j]? = some u → W.cell? ⟨b, off + (i * 5 + j), none⟩ = some u := by
      intro i hi
      obtain ⟨u0, y0, n0, c0, t0⟩ := hat i hi 0 _ rfl
      obtain ⟨u1, y1, n1, c1, t1⟩ := hat i hi 1 _ rfl
      obtain ⟨u2, y2, n2, c2, t2⟩ := hat i hi 2 _ rfl
      obtain ⟨u3, y3, n3, c3, t3⟩ := hat i hi 3 _ rfl
      obtain ⟨u4, y4, n4, c4, t4⟩ := hat i hi 4 _ rfl
      obtain ⟨z0, e0, _, w0⟩ := DataW.trod_int Tryz.underlying3 t0
      obtain ⟨s1, e1, _, w1⟩ := DataW.trod_string Tryz.underlying9 t1
      obtain ⟨s2, e2, _, w2⟩ := DataW.trod_string Tryz.underlying9 t2
      obtain ⟨s3, e3, _, w3⟩ := DataW.trod_string Tryz.underlying9 t3
      obtain ⟨s4, e4, _, w4⟩ := DataW.trod_string Tryz.underlying9 t4
      simp only [List.cons.injEq, and_true] at e0 e1 e2 e3 e4
      subst e0 e1 e2 e3 e4
      obtain ⟨v0, y0', n0', z, _⟩ := hat 0 (by omega) 0 _ rfl
      have hsp : a.spot = none := by
        have := spot_none z
        simpa [Addr.add] using this
      obtain ⟨b, off, sp⟩ := a
      simp only at hsp
      subst hsp
      have b0 := wf_b w0
      unfold maxLen at w1 w2 w3 w4
      rw [add_none] at c0 c1 c2 c3 c4
      change W.cell? ⟨b, off + (i * 5 + 0), none⟩ = _ at c0
      change W.cell? ⟨b, off + (i * 5 + 1), none⟩ = _ at c1
      change W.cell? ⟨b, off + (i * 5 + 2), none⟩ = _ at c2
      change W.cell? ⟨b, off + (i * 5 + 3), none⟩ = _ at c3
      change W.cell? ⟨b, off + (i * 5 + 4), none⟩ = _ at c4
      refine ⟨⟨z0, s1.data.toList, s2.data.toList, s3.data.toList, s4.data.toList⟩, ⟨b0, by simp only [toList_len]; omega, by simp only [toList_len]; omega, by simp only [toList_len]; omega, by simp only [toList_len]; omega⟩, b, off, rfl, World.block_lt_of_cell? _ _ c0, fun j u hu => ?_⟩
      match j, hu with
      | 0, hu => obtain rfl := Option.some.inj hu; exact c0
      | 1, hu => obtain rfl := Option.some.inj hu; simp only [B_of]; exact c1
      | 2, hu => obtain rfl := Option.some.inj hu; simp only [B_of]; exact c2
      | 3, hu => obtain rfl := Option.some.inj hu; simp only [B_of]; exact c3
      | 4, hu => obtain rfl := Option.some.inj hu; simp only [B_of]; exact c4
    obtain ⟨f, hf⟩ := Deep.choose_lt hall
    refine ⟨some a, cap, (List.range len).map f, by simpa using hs, by simp; omega, ⟨some a, cap, rfl, by simpa using hl, ?_⟩, fun x hx => ?_⟩
    · by_cases h0 : len = 0
      · subst h0
        exact .inl rfl
      · obtain ⟨_, b, off, rfl, hb, _⟩ := hf 0 (by omega)
        refine .inr ⟨b, off, rfl, hb, fun j x hx i u hu => ?_⟩
        simp only [List.getElem?_map, Option.map_eq_some_iff] at hx
        obtain ⟨k, hk, rfl⟩ := hx
        obtain ⟨hk1, rfl⟩ := List.getElem?_eq_some_iff.1 hk
        simp only [List.getElem_range] at hu
        obtain ⟨_, b', off', he, _, h2⟩ := hf j (by simpa using hk1)
        cases he
        exact h2 i u hu
    · obtain ⟨i, hi, rfl⟩ := List.mem_map.1 hx
      exact (hf i (List.mem_range.1 hi)).1
theorem cSp : Tryz.prog.cellsOf 42 = 5 := by kernel_rfl
theorem cIntS : Tryz.prog.cellsOf 3 = 1 := by kernel_rfl
theorem cStrS : Tryz.prog.cellsOf 9 = 1 := by kernel_rfl
theorem arr5 {cs : Array Value} (h : cs.size = 5) : ∃ c0 c1 c2 c3 c4, cs = #[c0, c1, c2, c3, c4] := by
  obtain ⟨l⟩ := cs
  match l, h with
  | [a, b, c, d, e], _ => exact ⟨a, b, c, d, e, rfl⟩
theorem len5 {α : Type} : ∀ {l : List α}, l.length = 5 → ∃ a b c d e, l = [a, b, c, d, e]
  | [a, b, c, d, e], _ => ⟨a, b, c, d, e, rfl⟩
theorem step_of {H : Type} {enc : TypeId × Value → H} {W : World} {v : Value} {cs : Array Value} {d : DataW H} {ps : List MemPlace} (h : DataW.Trod enc Tryz.prog W 0 (fun _ => true) true 42 v d ps) (hv : v = .agg cs) (hz : cs.size = Tryz.prog.cellsOf 42) :
    ∃ (x : Sp) (_ : Unit), v = .agg #[.int .i64 x.kind, .string (B x.table), .string (B x.key), .string (B x.to), .string (B x.text)] ∧ SpOk x ∧ True := by
  subst hv
  rw [cSp] at hz
  obtain ⟨c0, c1, c2, c3, c4, rfl⟩ := arr5 hz
  obtain ⟨fuel, hf⟩ := h
  obtain ⟨xs, n, rfl, hx, hl, hxl, hall⟩ := DataW.trod_struct Tryz.underlying42 hf
  have hxl5 : xs.length = 5 := hxl
  obtain ⟨x0, x1, x2, x3, x4, rfl⟩ := len5 hxl5
  have f0 := hall 0 _ rfl
  have f1 := hall 1 _ rfl
  have f2 := hall 2 _ rfl
  have f3 := hall 3 _ rfl
  have f4 := hall 4 _ rfl
  change DataW.trod _ _ _ _ _ _ _ 3 (([c0, c1, c2, c3, c4].drop 0).take (Tryz.prog.cellsOf 3)) = _ at f0
  change DataW.trod _ _ _ _ _ _ _ 9 (([c0, c1, c2, c3, c4].drop 1).take (Tryz.prog.cellsOf 9)) = _ at f1
  change DataW.trod _ _ _ _ _ _ _ 9 (([c0, c1, c2, c3, c4].drop 2).take (Tryz.prog.cellsOf 9)) = _ at f2
  change DataW.trod _ _ _ _ _ _ _ 9 (([c0, c1, c2, c3, c4].drop 3).take (Tryz.prog.cellsOf 9)) = _ at f3
  change DataW.trod _ _ _ _ _ _ _ 9 (([c0, c1, c2, c3, c4].drop 4).take (Tryz.prog.cellsOf 9)) = _ at f4
  rw [cIntS] at f0
  rw [cStrS] at f1 f2 f3 f4
  obtain ⟨z0, e0, _, w0⟩ := DataW.trod_int Tryz.underlying3 f0
  obtain ⟨s1, e1, _, w1⟩ := DataW.trod_string Tryz.underlying9 f1
  obtain ⟨s2, e2, _, w2⟩ := DataW.trod_string Tryz.underlying9 f2
  obtain ⟨s3, e3, _, w3⟩ := DataW.trod_string Tryz.underlying9 f3
  obtain ⟨s4, e4, _, w4⟩ := DataW.trod_string Tryz.underlying9 f4
  simp at e0 e1 e2 e3 e4
  subst e0 e1 e2 e3 e4
  have b0 := wf_b w0
  unfold maxLen at w1 w2 w3 w4
  exact ⟨⟨z0, s1.data.toList, s2.data.toList, s3.data.toList, s4.data.toList⟩, (), by simp only [B_of], ⟨b0, by simp only [toList_len]; omega, by simp only [toList_len]; omega, by simp only [toList_len]; omega, by simp only [toList_len]; omega⟩, trivial⟩
end Go.Proofs.YthjcifokmcbaoaaGreatDoor.st
/- An argument that is a slice of numbers, opened. No conditions. -/
namespace Go.Proofs.YthjcifokmcbaoaaGreatDoor.st
open Go.ChangeShapes Go.WideShapes Go.ChangeAt Go.RowKit gl
theorem cInt : Tryz.prog.cellsOf 3 = 1 := by kernel_rfl
theorem ints_of {H : Type} {enc : TypeId × Value → H} {W : World} {v : Value} {d : DataW H} {ps : List MemPlace} (h : DataW.Trod enc Tryz.prog W 0 (fun _ => true) true 63 v d ps) (hv : v.cells.toList = [v]) :
    ∃ p cap, ∃ l : List Int, v = .slice p l.length cap ∧ l.length ≤ maxLen ∧ Ints W (.slice p l.length cap) l.length := by
  obtain ⟨fuel, hf⟩ := h
  rw [hv] at hf
  rcases Go.ChangeShapes.open_ints Tryz.underlying63 Tryz.underlying3 cInt hf with ⟨h0, _⟩ | ⟨a, len, cap, zs, hcs, _, hl, hm, hz, _, hat, hwf⟩
  · simp only [List.cons.injEq, and_true] at h0
    exact ⟨none, 0, [], h0, Nat.zero_le _, none, 0, rfl, Nat.le_refl _, .inl rfl⟩
  · simp only [List.cons.injEq, and_true] at hcs
    simp only [if_true] at hz
    refine ⟨some a, cap, zs.take len, ?_, ?_, some a, cap, rfl, ?_, ?_⟩
    · rw [List.length_take, Nat.min_eq_left (by omega)]; exact hcs
    · rw [List.length_take]; omega
    · rw [List.length_take]; omega
    · by_cases h0 : len = 0
      · subst h0
        exact .inl rfl
      · have hz0 := hat 0 (by omega)
        have hsp : a.spot = none := by
          have := spot_none hz0
          simpa [Addr.add] using this
        obtain ⟨b, o, sp⟩ := a
        simp only at hsp
        subst hsp
        refine .inr ⟨b, o, rfl, ?_, fun j hj => ?_⟩
        · have := World.block_lt_of_cell? _ _ hz0
          rw [add_none] at this
          exact this
        · rw [List.length_take] at hj
          have hc := hat j (by omega)
          rw [add_none] at hc
          have hg : zs.getD j 0 = zs[j]'(by omega) := by rw [List.getD_eq_getElem?_getD, List.getElem?_eq_getElem (by omega)]; rfl
          have := wf_b (hwf _ (List.getElem_mem (by omega : j < zs.length)))
          rw [hg] at hc
          exact ⟨_, hc, this.1, this.2⟩
end Go.Proofs.YthjcifokmcbaoaaGreatDoor.st
/- Package move: the order of a move and an ID; slices.BinarySearchFunc over moves that ascend by their IDs. Conditions: at most 4294967295 moves. -/
namespace Go.Proofs.YthjcifokmcbaoaaGreatDoor.st
open Go.ChangeShapes Go.WideShapes Go.ChangeAt Go.RowKit gl ls

theorem cmpB_eq : ∀ a b : List UInt8, Lib.compareBytes a b = cmpL a b
  | [], [] => rfl
  | [], b :: y => rfl
  | a :: x, [] => by
    unfold cmpL
    rw [ltL_nil]
    rfl
  | a :: x, b :: y => by
    have ih := cmpB_eq x y
    unfold Lib.compareBytes cmpL
    rw [ltL_cons]
    by_cases h1 : a < b
    · simp [h1]
    · by_cases h2 : b < a
      · have hne : (a == b) = false := by
          rw [beq_eq_false_iff_ne]
          rintro rfl
          exact h1 h2
        have hne' : a ≠ b := by simpa using hne
        simp [h1, h2, hne, hne']
      · obtain rfl : a = b := UInt8.le_antisymm (UInt8.not_lt.1 h2) (UInt8.not_lt.1 h1)
        simp only [h1, decide_false, BEq.rfl, Bool.true_and, Bool.false_or, if_false, ih, List.cons.injEq, true_and]
        rfl
theorem compared_any (t id x : ByteArray) (pn ps : Option Addr) (nn cn ns cs : Nat) (w : World) :
    Calls Tryz.prog 102 #[.string t, .agg #[.string id, .slice pn nn cn, .slice ps ns cs], .string x] w fun e w' => e = .returned (.int .i64 (cmpL id.data.toList t.data.toList)) ∧ Below w.heap.size w w' := by
  have hb : Below w.heap.size w (w.alloc (.cells #[.string id, .slice pn nn cn, .slice ps ns cs] 36)) := (Below.refl _ _).alloc (Nat.le_refl _) _
  have Hb := Lib.hid hb
  have HC := Lib.hid (Tryz.strings_Compare id t)
  clear hb
  go_enter Tryz.func102, Tryz.ntmps102
  go_wp2_with fail
  refine (HC.out _).mono ?_
  rintro e w1 ⟨rfl, rfl⟩
  go_wp2_with fail
  go_ret
  exact ⟨by rw [cmpB_eq]; rfl, Hb.out⟩
/-- Where a text stands among texts that ascend, or would. -/
def FoundAt (ids : List (List UInt8)) (t : List UInt8) (k : Nat) (b : Bool) : Prop := k ≤ ids.length ∧ (∀ i x, ids[i]? = some x → (i < k ↔ ltL x t = true)) ∧ b = decide (ids[k]? = some t)
theorem pair_at {α : Type} {S : α → α → Prop} {l : List α} {i j : Nat} {x y : α} (h : l.Pairwise S) (hi : l[i]? = some x) (hj : l[j]? = some y) (hij : i < j) : S x y := by
  obtain ⟨h1, rfl⟩ := List.getElem?_eq_some_iff.1 hi
  obtain ⟨h2, rfl⟩ := List.getElem?_eq_some_iff.1 hj
  exact List.pairwise_iff_getElem.1 h i j h1 h2 hij
def Betw (ids : List (List UInt8)) (t : List UInt8) (i j : Nat) : Prop := ∀ k x, ids[k]? = some x → (k < i → ltL x t = true) ∧ (j ≤ k → ltL x t = false)
theorem betw_up {ids : List (List UInt8)} {t x : List UInt8} {i j h : Nat} (ha : ids.Pairwise fun a b => ltL a b = true) (hB : Betw ids t i j) (hx : ids[h]? = some x) (hl : ltL x t = true) : Betw ids t (h + 1) j := by
  intro k y hy
  refine ⟨fun hk => ?_, (hB k y hy).2⟩
  by_cases he : k = h
  · subst he
    obtain rfl := Option.some.inj (hx.symm.trans hy)
    exact hl
  · exact ltL_trans _ _ _ (pair_at (S := fun a b => ltL a b = true) ha hy hx (by omega)) hl
theorem betw_dn {ids : List (List UInt8)} {t x : List UInt8} {i j h : Nat} (ha : ids.Pairwise fun a b => ltL a b = true) (hB : Betw ids t i j) (hx : ids[h]? = some x) (hl : ltL x t = false) : Betw ids t i h := by
  intro k y hy
  refine ⟨(hB k y hy).1, fun hk => ?_⟩
  by_cases he : k = h
  · subst he
    obtain rfl := Option.some.inj (hx.symm.trans hy)
    exact hl
  · cases hc : ltL y t with
    | false => rfl
    | true =>
      have := ltL_trans _ _ _ (pair_at (S := fun a b => ltL a b = true) ha hx hy (by omega)) hc
      rw [hl] at this
      cases this
theorem betw_end {ids : List (List UInt8)} {t : List UInt8} {i : Nat} (hi : i ≤ ids.length) (hB : Betw ids t i i) : FoundAt ids t i (decide (ids[i]? = some t)) := by
  refine ⟨hi, fun k x hx => ⟨(hB k x hx).1, fun hl => ?_⟩, rfl⟩
  rcases Nat.lt_or_ge k i with h | h
  · exact h
  · rw [(hB k x hx).2 h] at hl
    cases hl
set_option maxHeartbeats 2000000 in
set_option maxRecDepth 100000 in
theorem bsearch_any (p : Option Addr) (m c : Nat) (R : List MvR) (t : List UInt8) (hm : m ≤ 4294967295) (ha : (R.map (·.id)).Pairwise fun a b => ltL a b = true) (w : World) (h : rw.Rw mvC 3 w (.slice p m c) R) :
    Calls Tryz.prog 101 #[.slice p m c, .string (B t), .func (.func 102) #[.string (B t)] #[]] w fun e w' =>
      (∃ k b, e = .returned (.tuple #[.int .i64 (k : Nat), .bool b]) ∧ FoundAt (R.map (·.id)) t k b) ∧ Below w.heap.size w w' := by
  have HR := Lib.hid h
  have Hptr := Lib.hid h.ptr
  have Ha := Lib.hid ha
  have Ht := Lib.hid (show (B t).data.toList = t from by simp)
  have HC := Lib.hid fun (x : MvR) W => compared_any (B t) (B x.id) (B t) x.pn x.ps x.nn x.cn x.ns x.cs W
  generalize B t = tt at *
  clear h ha
  go_enter Tryz.func101, Tryz.ntmps101
  go_wp2_with fail
  go_loopw [9, 10] (fun vi vj wr => ∃ i j : Nat, i ≤ j ∧ j ≤ m ∧ vi = .int .i64 i ∧ vj = .int .i64 j ∧ Hid (Betw (R.map (·.id)) t i j) ∧ Hid (Below w.heap.size w wr)) (fun vi vj _ => (intOf vj).toNat - (intOf vi).toNat)
  case atStart => exact ⟨0, m, by omega, by omega, rfl, rfl, Lib.hid fun k x hx => ⟨fun hk => by omega, fun hk => by
    have := lt_get hx
    rw [List.length_map, Hptr.out.1] at this
    omega⟩, Lib.hid (Below.refl _ _)⟩
  case round =>
    obtain ⟨i, j, hij, hj, rfl, rfl, HB, Hb⟩ := hrel
    have hzr := Hb.out.size
    by_cases hlt : i < j
    · have hhm : (i + j) / 2 < m := by omega
      obtain ⟨b, o, rfl, hbl⟩ := Hptr.out.2.2 (by omega)
      obtain ⟨x, hx⟩ : ∃ x, R[(i + j) / 2]? = some x := ⟨_, List.getElem?_eq_getElem (by rw [Hptr.out.1]; exact hhm)⟩
      obtain ⟨k0, k1, k2⟩ := mv_cells (HR.out.later Hb.out) hx
      have hxi : (R.map (·.id))[(i + j) / 2]? = some x.id := by rw [List.getElem?_map, hx]; rfl
      have HCx := Lib.hid (HC.out x)
      rw [B_list] at HCx
      have hbr : b < wr.heap.size := by omega
      cases hl : ltL x.id t with
      | true =>
        have HB2 := Lib.hid (betw_up Ha.out HB.out hxi hl)
        have hc : cmpL x.id t = -1 := by unfold cmpL; rw [if_pos hl]
        rw [Ht.out, hc] at HCx
        clear hl hxi hc hx HB
        simp only [MvR.vn, MvR.vs] at k1 k2
        generalize B x.id = nm at *
        go_wp2_with fail
        refine (HCx.out _).mono ?_
        rintro e w1 ⟨rfl, hb1⟩
        have Hb1 := Lib.hid (then_bel Hb.out hb1)
        clear hb1
        go_wp2_with fail
        go_roundw
        case rel => exact ⟨(i + j) / 2 + 1, j, by omega, hj, by go_num, rfl, HB2, Hb1⟩
        case measure => simp [intOf]; omega
      | false =>
        have HB2 := Lib.hid (betw_dn Ha.out HB.out hxi hl)
        have hc : ∃ z : Int, cmpL x.id t = z ∧ 0 ≤ z := by
          unfold cmpL; rw [if_neg (by rw [hl]; simp)]; split
          · exact ⟨0, rfl, by omega⟩
          · exact ⟨1, rfl, by omega⟩
        obtain ⟨z, hc, hz0⟩ := hc
        rw [Ht.out, hc] at HCx
        clear hl hxi hc hx HB
        simp only [MvR.vn, MvR.vs] at k1 k2
        generalize B x.id = nm at *
        have hz1 : decide (z < 0) = false := by rw [decide_eq_false_iff_not]; omega
        have hz2 : ¬ (z < 0) := by omega
        go_wp2_with fail
        refine (HCx.out _).mono ?_
        rintro e w1 ⟨rfl, hb1⟩
        have Hb1 := Lib.hid (then_bel Hb.out hb1)
        clear hb1
        go_wp2_with fail
        go_roundw
        case rel => exact ⟨i, (i + j) / 2, by omega, by omega, rfl, by go_num, HB2, Hb1⟩
        case measure => simp [intOf]; omega
    · obtain rfl : i = j := by omega
      have hF := betw_end (by rw [List.length_map, Hptr.out.1]; exact hj) HB.out
      by_cases h5 : i < m
      · obtain ⟨b, o, rfl, hbl⟩ := Hptr.out.2.2 (by omega)
        obtain ⟨x, hx⟩ : ∃ x, R[i]? = some x := ⟨_, List.getElem?_eq_getElem (by rw [Hptr.out.1]; exact h5)⟩
        obtain ⟨k0, k1, k2⟩ := mv_cells (HR.out.later Hb.out) hx
        have hxi : (R.map (·.id))[i]? = some x.id := by rw [List.getElem?_map, hx]; rfl
        have HCx := Lib.hid (HC.out x)
        rw [B_list] at HCx
        have hbr : b < wr.heap.size := by omega
        rw [hxi] at hF
        have hl := (HB.out i _ hxi).2 (Nat.le_refl _)
        have hc : ∃ z : Int, cmpL x.id t = z ∧ decide (z = 0) = decide (some x.id = some t) := by
          unfold cmpL; rw [if_neg (by rw [hl]; simp)]; split
          · exact ⟨0, rfl, by simp [*]⟩
          · exact ⟨1, rfl, by simp [*]⟩
        obtain ⟨z, hc, hz0⟩ := hc
        rw [Ht.out, hc] at HCx
        rw [← hz0] at hF
        have HF := Lib.hid hF
        clear hl hxi hc hx HB hF hz0
        simp only [MvR.vn, MvR.vs] at k1 k2
        generalize B x.id = nm at *
        have h5' : decide ((i : Int) < (m : Int)) = true := by simp; omega
        have h5i : (i : Int) < (m : Int) := by omega
        have h50 : (0 : Int) ≤ (i : Int) := by omega
        go_wp2_with fail
        refine (HCx.out _).mono ?_
        rintro e w1 ⟨rfl, hb1⟩
        have Hb1 := Lib.hid (then_bel Hb.out hb1)
        clear hb1
        go_wp2_with fail
        go_ret2
        exact ⟨⟨_, _, rfl, HF.out⟩, Hb1.out⟩
      · obtain rfl : i = m := by omega
        have h5' : decide ((i : Int) < (i : Int)) = false := by simp
        rw [List.getElem?_eq_none (by rw [List.length_map, Hptr.out.1]; exact Nat.le_refl _)] at hF
        have HF := Lib.hid hF
        clear HB hF
        go_wp2_with fail
        go_ret2
        exact ⟨⟨_, _, rfl, HF.out⟩, Hb.out⟩
end Go.Proofs.YthjcifokmcbaoaaGreatDoor.st
