/- Laws and contracts on which the statement rests, part G: each text says what it proves, and its conditions. -/
import Derived.Test.YtbelnaiekbfoiaaGreatDoorMdF
import Derived.Test.YtbelnaiekbfoiaaGreatDoorMdE
import Derived.Test.YtbelnaiekbfoiaaGreatDoorShelf
import Derived.Laws.OwnMore
import Derived.Maps.AppendAt
import Derived.Deep.AppendLies
import Derived.Shelf.SlSortCmp.SmallK
import Derived.Test.YtbelnaiekbfoiaaGreatDoorMdB
import Derived.Test.YtbelnaiekbfoiaaGreatDoorMdC
/- Rules in memory. Plain facts on memory; no conditions beside those stated. -/
namespace Go.Proofs.YtbelnaiekbfoiaaGreatDoor.dr
open Go.ChangeShapes Go.WideShapes Go.ChangeAt Go.RowKit gl va ls ky ly

/-! ### Texts -/
def txC (x : List UInt8) : List Value := [.string (B x)]
theorem txC_len : ∀ x, (txC x).length = 1 := fun _ => rfl
theorem txC_one : ∀ x, ∀ v ∈ txC x, v.oneCell' = true := fun x v hv => by
  unfold txC at hv
  rw [List.mem_singleton] at hv
  subst hv
  rfl
abbrev Txs (w : World) (v : Value) (l : List (List UInt8)) : Prop := rw.Rw txC 1 w v l
abbrev NewTx (M : Nat) (w : World) (v : Value) (l : List (List UInt8)) : Prop := rw.NewRw txC 1 9 M w v l
theorem tx_cell {w : World} {b o n c : Nat} {l : List (List UInt8)} (h : Txs w (.slice (some ⟨b, o, none⟩) n c) l) {j : Nat} {x : List UInt8} (hx : l[j]? = some x) : w.cell? ⟨b, o + j, none⟩ = some (.string (B x)) := by
  have := rw.Rw.cell h hx (i := 0) rfl
  rwa [Nat.mul_one, Nat.add_zero] at this

/-! ### Rules -/
structure Ru where
  target : List UInt8
  needs : List (List UInt8)
  op : Int
  add : Int
structure RuR where
  target : List UInt8
  p : Option Addr
  n : Nat
  c : Nat
  op : Int
  add : Int
abbrev RuR.vn (r : RuR) : Value := .slice r.p r.n r.c
def ruC (r : RuR) : List Value := [.string (B r.target), r.vn, .int .i64 r.op, .int .i64 r.add]
theorem ruC_len : ∀ x, (ruC x).length = 4 := fun _ => rfl
theorem ruC_one : ∀ x, ∀ v ∈ ruC x, v.oneCell' = true := fun x v hv => by
  unfold ruC at hv
  simp only [List.mem_cons, List.not_mem_nil, or_false] at hv
  rcases hv with rfl | rfl | rfl | rfl <;> rfl
def Rul (w : World) (r : RuR) (m : Ru) : Prop := r.target = m.target ∧ r.op = m.op ∧ r.add = m.add ∧ Txs w r.vn m.needs
theorem Rul.later {w w' : World} {r : RuR} {m : Ru} (h : Rul w r m) (hb : Below w.heap.size w w') : Rul w' r m := ⟨h.1, h.2.1, h.2.2.1, h.2.2.2.later hb⟩
/-- A slice reads as these rules. -/
def Rus (w : World) (v : Value) (RR : List RuR) (l : List Ru) : Prop := rw.Rw ruC 4 w v RR ∧ RR.length = l.length ∧ ∀ (i : Nat) (r : RuR) (m : Ru), RR[i]? = some r → l[i]? = some m → Rul w r m
theorem Rus.later {w w' : World} {v : Value} {RR : List RuR} {l : List Ru} (h : Rus w v RR l) (hb : Below w.heap.size w w') : Rus w' v RR l := ⟨h.1.later hb, h.2.1, fun i r m h1 h2 => (h.2.2 i r m h1 h2).later hb⟩
/-- Rules in memory of their own. -/
def NewRul (M : Nat) (w : World) (r : RuR) (m : Ru) : Prop := r.target = m.target ∧ r.op = m.op ∧ r.add = m.add ∧ NewTx M w r.vn m.needs
def NewRu (M : Nat) (w : World) (v : Value) (RR : List RuR) (l : List Ru) : Prop := rw.NewRw ruC 4 59 M w v RR ∧ RR.length = l.length ∧ ∀ (i : Nat) (r : RuR) (m : Ru), RR[i]? = some r → l[i]? = some m → NewRul M w r m
theorem NewRul.later {M : Nat} {w w' : World} {r : RuR} {m : Ru} (h : NewRul M w r m) (hb : Below w.heap.size w w') : NewRul M w' r m := ⟨h.1, h.2.1, h.2.2.1, h.2.2.2.later hb⟩
theorem NewRul.mono {M M' : Nat} {w : World} {r : RuR} {m : Ru} (h : NewRul M w r m) (hM : M' ≤ M) : NewRul M' w r m := ⟨h.1, h.2.1, h.2.2.1, h.2.2.2.mono hM⟩
theorem NewRu.later {M : Nat} {w w' : World} {v : Value} {RR : List RuR} {l : List Ru} (h : NewRu M w v RR l) (hb : Below w.heap.size w w') : NewRu M w' v RR l := ⟨h.1.later hb, h.2.1, fun i r m h1 h2 => (h.2.2 i r m h1 h2).later hb⟩
theorem NewRu.mono {M M' : Nat} {w : World} {v : Value} {RR : List RuR} {l : List Ru} (h : NewRu M w v RR l) (hM : M' ≤ M) : NewRu M' w v RR l := ⟨h.1.mono hM, h.2.1, fun i r m h1 h2 => (h.2.2 i r m h1 h2).mono hM⟩
theorem NewRu.rus {M : Nat} {w : World} {v : Value} {RR : List RuR} {l : List Ru} (h : NewRu M w v RR l) : Rus w v RR l :=
  ⟨h.1.rw ruC_len, h.2.1, fun i r m h1 h2 => by obtain ⟨a, b, c, d⟩ := h.2.2 i r m h1 h2; exact ⟨a, b, c, d.rw txC_len⟩⟩
theorem ru_cells {w : World} {b o n c : Nat} {R : List RuR} (h : rw.Rw ruC 4 w (.slice (some ⟨b, o, none⟩) n c) R) {j : Nat} {x : RuR} (hx : R[j]? = some x) :
    w.cell? ⟨b, o + j * 4, none⟩ = some (.string (B x.target)) ∧ w.cell? ⟨b, o + j * 4 + 1, none⟩ = some x.vn ∧ w.cell? ⟨b, o + j * 4 + 2, none⟩ = some (.int .i64 x.op) ∧ w.cell? ⟨b, o + j * 4 + 3, none⟩ = some (.int .i64 x.add) :=
  ⟨rw.Rw.cell h hx (i := 0) rfl, rw.Rw.cell h hx (i := 1) rfl, rw.Rw.cell h hx (i := 2) rfl, rw.Rw.cell h hx (i := 3) rfl⟩

/-! ### The rules that stand -/
def tWk : List UInt8 := [98, 111, 111, 116, 46, 119, 111, 114, 107, 101, 114, 115]
def tLm : List UInt8 := [98, 111, 111, 116, 46, 108, 105, 109, 105, 116]
def tSv : List UInt8 := [98, 111, 111, 116, 46, 115, 101, 114, 118, 105, 99, 101, 115]
def tPg : List UInt8 := [115, 116, 111, 114, 101, 46, 112, 97, 103, 101]
def tCh : List UInt8 := [115, 116, 111, 114, 101, 46, 99, 97, 99, 104, 101]
def ruLm : Ru := ⟨tLm, [tWk], 4, 16⟩
def ruWk : Ru := ⟨tWk, [tSv], 6, 1⟩
def ruPg : Ru := ⟨tPg, [tCh], 5, 1024⟩
def stdRu : List Ru := [ruLm, ruWk, ruPg]
/-- What the standard settings hold at first. -/
noncomputable def vs0 : List Vs := stdK.map fun k => ⟨(parse wordL k.kind k.dflt).1, 0⟩
end Go.Proofs.YtbelnaiekbfoiaaGreatDoor.dr
/- What the standard settings hold, and what the standard rules make of it: plain, decided. No program in sight; no conditions. -/
namespace Go.Proofs.YtbelnaiekbfoiaaGreatDoor.dr
open gl va ls ky ly

abbrev vInt (k n : Int) : Val := ⟨k, n, ByteArray.empty, []⟩
/-- Behind the rules. -/
noncomputable def vs1 : List Vs := vs0.set 3 ⟨vInt 2 3, 5⟩
noncomputable def vs2 : List Vs := vs1.set 1 ⟨vInt 2 48, 5⟩
noncomputable def vs3 : List Vs := vs2.set 15 ⟨vInt 3 4096, 5⟩
theorem may0 : mayAll stdK vs0 = true := by kernel_rfl
theorem may3 : mayAll stdK vs3 = true := by kernel_rfl
theorem at1 : vs0[1]? = some ⟨vInt 2 0, 0⟩ := by kernel_rfl
theorem at2 : vs0[2]? = some ⟨⟨6, 0, ByteArray.empty, [⟨#[108, 111, 103]⟩, ⟨#[110, 101, 116]⟩]⟩, 0⟩ := by kernel_rfl
theorem at3 : vs0[3]? = some ⟨vInt 2 0, 0⟩ := by kernel_rfl
theorem at13 : vs0[13]? = some ⟨vInt 3 4194304, 0⟩ := by kernel_rfl
theorem at15 : vs0[15]? = some ⟨vInt 3 4096, 0⟩ := by kernel_rfl
theorem at1b : vs1[1]? = some ⟨vInt 2 0, 0⟩ := by kernel_rfl
theorem at3b : vs1[3]? = some ⟨vInt 2 3, 5⟩ := by kernel_rfl
theorem at13c : vs2[13]? = some ⟨vInt 3 4194304, 0⟩ := by kernel_rfl
theorem at15c : vs2[15]? = some ⟨vInt 3 4096, 0⟩ := by kernel_rfl
theorem at1d : vs3[1]? = some ⟨vInt 2 48, 5⟩ := by kernel_rfl
theorem at3d : vs3[3]? = some ⟨vInt 2 3, 5⟩ := by kernel_rfl
theorem at15d : vs3[15]? = some ⟨vInt 3 4096, 5⟩ := by kernel_rfl
/-- No greater than the bounds, and of a source that there is. -/
noncomputable def vbB (x : Vs) : Bool := decide (-9223372036854775808 ≤ x.v.int ∧ x.v.int ≤ 9223372036854775807) && decide (x.v.text.size ≤ 2147483647) && decide (x.v.words.length ≤ 2147483647) && x.v.words.all (fun t => decide (t.size ≤ 2147483647)) && decide ((joined x.v.words).length ≤ 140737488355328) && decide (0 ≤ x.src ∧ x.src ≤ 5)
theorem vbB_is {x : Vs} (h : vbB x = true) : Vb x.v ∧ 0 ≤ x.src ∧ x.src ≤ 5 := by
  unfold vbB at h
  simp only [Bool.and_eq_true, decide_eq_true_eq, List.all_eq_true] at h
  obtain ⟨⟨⟨⟨⟨h1, h2⟩, h3⟩, h4⟩, h5⟩, h6⟩ := h
  exact ⟨⟨h1.1, h1.2, h2, h3, h4, h5⟩, h6⟩
theorem vb0 : vs0.all vbB = true := by kernel_rfl
theorem vb1 : vs1.all vbB = true := by kernel_rfl
theorem vb2 : vs2.all vbB = true := by kernel_rfl
theorem vb3 : vs3.all vbB = true := by kernel_rfl
theorem vb_at {V : List Vs} (h : V.all vbB = true) {i : Nat} {x : Vs} (hx : V[i]? = some x) : Vb x.v ∧ 0 ≤ x.src ∧ x.src ≤ 5 := vbB_is (List.all_eq_true.1 h x (List.mem_of_getElem? hx))
theorem words_le {R : List Hd} {V : List Vs} (hR : R.map Hd.vs = V) (h : V.all vbB = true) : ∀ x ∈ R, x.v.words.length ≤ 4294967295 := fun x hx => by
  have := (vbB_is (List.all_eq_true.1 h x.vs (by rw [← hR]; exact List.mem_map_of_mem hx))).1.words
  exact Nat.le_trans this (by decide)
end Go.Proofs.YtbelnaiekbfoiaaGreatDoor.dr
/- Package derive: boot, store; slices.Concat of their lists; slices.Clip of rules. Conditions beside each. -/
namespace Go.Proofs.YtbelnaiekbfoiaaGreatDoor.dr
open Go.ChangeShapes Go.WideShapes Go.ChangeAt Go.RowKit gl va ls ky ly

def sl1 (b : Nat) : Value := .slice (some ⟨b, 0, none⟩) 1 1
def upX (u : Nat) : List Value := [.string (B tWk), sl1 u, .int .i64 6, .int .i64 1, .string (B tLm), sl1 (u + 1), .int .i64 4, .int .i64 16]
def loX (l : Nat) : List Value := [.string (B tPg), sl1 l, .int .i64 5, .int .i64 1024]
def upW (w : World) : World := ((w.alloc (.cells #[.string (B tSv)] 9)).alloc (.cells #[.string (B tWk)] 9)).alloc (.cells (upX w.heap.size).toArray 59)
def loW (w : World) : World := (w.alloc (.cells #[.string (B tCh)] 9)).alloc (.cells (loX w.heap.size).toArray 59)
theorem boot_any (w : World) : Calls Tryz.prog 61 #[] w fun e w' => e = .returned (.slice (some ⟨w.heap.size + 2, 0, none⟩) 2 2) ∧ w' = upW w := by
  go_enter Tryz.func61, Tryz.ntmps61
  go_wp2_with fail
  go_ret
  exact ⟨rfl, rfl⟩
theorem store_any (w : World) : Calls Tryz.prog 62 #[] w fun e w' => e = .returned (.slice (some ⟨w.heap.size + 1, 0, none⟩) 1 1) ∧ w' = loW w := by
  go_enter Tryz.func62, Tryz.ntmps62
  go_wp2_with fail
  go_ret
  exact ⟨rfl, rfl⟩
theorem infoRu : (Tryz.prog.info? 59).map (fun i => (i.zero, i.size, i.bytes)) = some (some (.agg #[.string .empty, .slice none 0 0, .int .i64 0, .int .i64 0]), 4, 56) := by kernel_rfl
theorem add_zero' {b k : Nat} : (⟨b, 0, none⟩ : Addr).add k = ⟨b, k, none⟩ := by
  unfold Addr.add
  split
  · rename_i h; rw [h]
  · simp
theorem grow_any (w : World) : Calls Tryz.prog 117 #[.slice none 0 0, .int .i64 3] w fun e w' => ∃ cap, e = .returned (.slice (some ⟨w.heap.size, 0, none⟩) 0 cap) ∧ w'.ownsRow w.heap.size 59 4 (.slice (some ⟨w.heap.size, 0, none⟩) 0 cap) 0 [] ∧ Below w.heap.size w w' := by
  obtain ⟨i0, hi, hz0, hz1, hz2⟩ := info_parts infoRu
  have h := Any8.slices_Grow_grow Tryz.growRu i0 _ hi hz0 (by omega) none 0 0 3 [] w (by omega) (by omega) (by rw [hz2]; omega) (by omega) (by simp) (fun _ => rfl) (fun a ha => by cases ha)
  refine h.mono fun e w' ⟨he, hw⟩ => ⟨_, he, ?_, ?_⟩
  · rw [hw]
    refine World.ownsRow_made w.drew _ _ (Nat.le_refl _) (grownCap_le_maxLen _ _ _ _ (by unfold maxLen; omega)) ?_
    have hg := grownCap_ge w (0 + 3) 0 59
    have h2 : (Value.cells (.agg #[.string .empty, .slice none 0 0, .int .i64 0, .int .i64 0])).size = 4 := rfl
    show (#[] ++ Builtin.zeroCells _ (0 + 3 - 0) ++ Builtin.zeroCells _ (grownCap w (0 + 3) 0 59 - (0 + 3))).size = grownCap w (0 + 3) 0 59 * 4
    simp only [Array.size_append, size_zeroCells, h2, List.size_toArray, List.length_nil]
    omega
  · rw [hw]; exact (Below.refl _ _).drew.alloc (Nat.le_refl _) _
set_option maxHeartbeats 2000000 in
set_option maxRecDepth 100000 in
theorem concat_any (w : World) (b g1 g2 : Nat) (x y : List Value) (hb0 : w.cell? ⟨b, 0, none⟩ = some (.slice (some ⟨g1, 0, none⟩) 2 2)) (hb1 : w.cell? ⟨b, 1, none⟩ = some (.slice (some ⟨g2, 0, none⟩) 1 1)) (hx : x.length = 8) (hy : y.length = 4)
    (h1 : ∀ j u, x[j]? = some u → w.cell? ⟨g1, j, none⟩ = some u) (h2 : ∀ j u, y[j]? = some u → w.cell? ⟨g2, j, none⟩ = some u) (o1 : ∀ u ∈ x, u.oneCell' = true) (o2 : ∀ u ∈ y, u.oneCell' = true) :
    Calls Tryz.prog 60 #[.slice (some ⟨b, 0, none⟩) 2 2] w fun e w' => ∃ v, e = .returned v ∧ w'.ownsRow w.heap.size 59 4 v 3 (x ++ y) ∧ Below w.heap.size w w' := by
  obtain ⟨i0, hi, hz0, hz1, hz2⟩ := info_parts infoRu
  have H1 := Lib.hid h1
  have H2 := Lib.hid h2
  have HX := Lib.hid hx
  have HY := Lib.hid hy
  have O1 := Lib.hid o1
  have O2 := Lib.hid o2
  have HLb := Lib.hid (World.block_lt_of_cell? _ _ hb0)
  have HB1c := Lib.hid hb1
  clear h1 h2 hx hy o1 o2
  go_enter Tryz.func60, Tryz.ntmps60
  go_wp2_with fail
  refine wp_loop_rounds 3 ?_
  rw [rounds_succ]
  go_wp2_with fail
  rw [rounds_succ]
  go_wp2_with fail
  rw [rounds_succ]
  go_wp2_with fail
  refine (grow_any _).mono ?_
  rintro e w1 ⟨cap, rfl, hown, hbl⟩
  have HO := Lib.hid hown
  have HB := Lib.hid hbl
  have hc0 : w1.cell? ⟨b, 0, none⟩ = some (.slice (some ⟨g1, 0, none⟩) 2 2) := (hbl.cell (p := ⟨b, 0, none⟩) (World.block_lt_of_cell? _ _ hb0)).trans hb0
  have hb1' : w1.cell? ⟨b, 1, none⟩ = some (.slice (some ⟨g2, 0, none⟩) 1 1) := (hbl.cell (p := ⟨b, 1, none⟩) (World.block_lt_of_cell? _ _ hb1)).trans hb1
  have HC1 := Lib.hid hb1'
  have N1 : Hid (∀ j u, x[j]? = some u → w1.cell? ((⟨g1, 0, none⟩ : Addr).add j) = some u) := Lib.hid (fun j u hj => by
    rw [add_zero']
    have := H1.out j u hj
    exact (HB.out.cell (p := ⟨g1, j, none⟩) (World.block_lt_of_cell? _ _ this)).trans this)
  clear hown hbl hb0 hb1 hb1'
  have hz := HB.out.size
  go_wp2_with fail
  refine wp_loop_rounds 3 ?_
  rw [rounds_succ]
  go_wp2_with (at_builtin; go_must (refine wpList_append_lies _ rfl (.tmp 31) (.tmp 32) 55 rfl w.heap.size 59 i0 _ 4 56 Tryz.underlying55 hi hz0 hz1 hz2 rfl (by decide) _ 0 [] (by rfl) HO.out ⟨g1, 0, none⟩ 2 2 x (by rfl) (by rw [HX.out]) N1.out O1.out (by omega) (by unfold maxLen; omega) (by omega) (by omega) _ rfl ?_))
  intro g' cap' w2 hown2 hgrow hat hlt2
  have HO2 := Lib.hid hown2
  have HB2 : Hid (Below w.heap.size w w2) := Lib.hid (HB.out.grown hgrow hz fun k hk => by simp only [Value.ownBlock, Option.some.injEq] at hk; omega)
  have hc1 : w2.cell? ⟨b, 1, none⟩ = some (.slice (some ⟨g2, 0, none⟩) 1 1) := (HB2.out.cell (p := ⟨b, 1, none⟩) HLb.out).trans HB1c.out
  have N2 : Hid (∀ j u, y[j]? = some u → w2.cell? ((⟨g2, 0, none⟩ : Addr).add j) = some u) := Lib.hid (fun j u hj => by
    rw [add_zero']
    have := H2.out j u hj
    exact (HB2.out.cell (p := ⟨g2, j, none⟩) (World.block_lt_of_cell? _ _ this)).trans this)
  have hz2' := HB2.out.size
  clear hown2 hgrow hat hc0
  go_wp2_with fail
  rw [rounds_succ]
  go_wp2_with (at_builtin; go_must (refine wpList_append_lies _ rfl (.tmp 31) (.tmp 32) 55 rfl w.heap.size 59 i0 _ 4 56 Tryz.underlying55 hi hz0 hz1 hz2 rfl (by decide) _ 2 _ (by rfl) HO2.out ⟨g2, 0, none⟩ 1 1 y (by rfl) (by rw [HY.out]) N2.out O2.out (by omega) (by unfold maxLen; omega) (by omega) (by omega) _ rfl ?_))
  intro g3 cap3 w3 hown3 hgrow hat hlt3
  have HO3 := Lib.hid hown3
  have HB3 : Hid (Below w.heap.size w w3) := Lib.hid (HB2.out.grown hgrow hz2' fun k hk => (HO2.out.lt k hk).1)
  clear hown3 hgrow hat hc1
  go_wp2_with fail
  rw [rounds_succ]
  go_wp2_with fail
  go_ret
  exact ⟨_, rfl, HO3.out, HB3.out⟩
theorem clip_any (p : Option Addr) (n c : Nat) (hn : n ≤ c) (hc : n ≤ 4294967295) (w : World) : Calls Tryz.prog 67 #[.slice p n c] w fun e w' => e = .returned (.slice p n n) ∧ w = w' := by
  have h1 : (n : Int) ≤ (c : Int) := by omega
  have h2 : (0 : Int) ≤ (n : Int) := by omega
  go_enter Tryz.func67, Tryz.ntmps67
  go_wp2_with fail
  go_ret
  exact ⟨rfl, rfl⟩
end Go.Proofs.YtbelnaiekbfoiaaGreatDoor.dr
/- What a sort of structs leaves in memory: laws on memory for any program. No conditions beside those stated. -/
namespace Go.Proofs.YtbelnaiekbfoiaaGreatDoor
open Go.RowKit Go.Sort Go.Lib
variable {α : Type} [Inhabited α]

theorem sorted_block {enc : α → List Value} {k : Nat} {w : World} {blk off n : Nat} {d : Array α} {os : Array Obj} {c : Array Value} {e : TypeId} {fr : Nat × Nat} (h : w.heap[blk]? = some (.cells c e fr)) :
    (sortWorldK enc k w blk off n d os).heap[blk]? = some (.cells (putCells id off (flatK enc k d) c) e fr) := by
  have hlt := lt_of_block h
  have h' : w.heap[blk] = .cells c e fr := by simpa [Array.getElem?_eq_getElem hlt] using h
  show (w.heap.modify blk _ ++ os)[blk]? = _
  rw [Array.getElem?_append_left (by simpa using hlt), Array.getElem?_eq_getElem (by simpa using hlt), Array.getElem_modify_self, h']
  rfl
theorem sorted_below {enc : α → List Value} {k : Nat} {w : World} {blk off n : Nat} {d : Array α} {os : Array Obj} {B : Nat} (hb : B ≤ blk) (hB : B ≤ w.heap.size) : Below B w (sortWorldK enc k w blk off n d os) := by
  refine ⟨rfl, rfl, rfl, ?_, fun i hi => ?_⟩
  · show w.heap.size ≤ (w.heap.modify blk _ ++ os).size
    simp
  · show (w.heap.modify blk _ ++ os)[i]? = _
    rw [Array.getElem?_append_left (by simp; omega), Array.getElem?_modify, if_neg (by omega)]
theorem putCells_size {β : Type} [Inhabited β] (enc : β → Value) (off : Nat) (d : Array β) (c : Array Value) : (putCells enc off d c).size = c.size := by simp [putCells]
theorem putCells_at (F c : Array Value) (j : Nat) (hj : j < F.size) (hc : j < c.size) : (putCells id 0 F c)[j]? = some F[j] := by
  unfold putCells
  rw [Array.getElem?_mapIdx, Array.getElem?_eq_getElem hc]
  simp [hj]
theorem holds_of_block {w : World} {blk : Nat} {F c : Array Value} {e : TypeId} (h : w.heap[blk]? = some (.cells c e (0, 0))) (hF : ∀ j, j < F.size → c[j]? = some F[j]!) : Holds id w blk 0 F := by
  intro j hj
  rw [Nat.zero_add]
  exact ⟨(cell_in h).trans (hF j hj), free_in h⟩
end Go.Proofs.YtbelnaiekbfoiaaGreatDoor
/- Package derive: the standard rules, sorted, their lists copied: the parts. Conditions beside each. -/
namespace Go.Proofs.YtbelnaiekbfoiaaGreatDoor.dr
open Go.ChangeShapes Go.WideShapes Go.ChangeAt Go.RowKit Go.Sort Go.Lib gl va ls ky ly

/-! ### The sort of three rules -/
abbrev RuE := ByteArray × (Option Addr × Nat × Nat) × (Int × Int)
def encRu (x : RuE) : List Value := [.string x.1, .slice x.2.1.1 x.2.1.2.1 x.2.1.2.2, .int .i64 x.2.2.1, .int .i64 x.2.2.2]
def cfRu (x y : RuE) : Int := Lib.compareBytes x.1.data.toList y.1.data.toList
set_option maxHeartbeats 1000000 in
theorem order1_any (x y : RuE) (W : World) : Calls Tryz.prog 64 #[.agg #[.string x.1, .slice x.2.1.1 x.2.1.2.1 x.2.1.2.2, .int .i64 x.2.2.1, .int .i64 x.2.2.2], .agg #[.string y.1, .slice y.2.1.1 y.2.1.2.1 y.2.1.2.2, .int .i64 y.2.2.1, .int .i64 y.2.2.2]] W fun e w' => e = .returned (.int .i64 (cfRu x y)) ∧ ∃ q os', w' = grow (W.drewN q) os' := by
  have hcon := fun W' => Tryz.strings_Compare x.1 y.1 W'
  unfold cfRu
  generalize Lib.compareBytes x.1.data.toList y.1.data.toList = r at hcon ⊢
  go_enter Tryz.func64, Tryz.ntmps64
  go_wp2_with (go_at_call 65; refine (hcon _).mono ?_; rintro e w' ⟨rfl, rfl⟩)
  go_ret
  exact ⟨rfl, 0, _, by rw [alloc_eq_grow, alloc_eq_grow, grow_grow]; rfl⟩
theorem order1_lays (blk off size : Nat) (w : World) : CmpLays Tryz.prog 64 #[] encRu 4 cfRu blk off size w := fun _ _ _ _ x y => order1_any x y _
theorem len_any (n : Nat) (W : World) (h : n ≤ 12) : Calls Tryz.prog 119 #[.int .u64 n] W fun e w' => (∃ l : Int, e = .returned (.int .i64 l)) ∧ w' = W :=
  (Tryz.bits_Len n W (by omega) (by omega)).mono fun _ _ ⟨he, hw⟩ => ⟨⟨_, he⟩, hw⟩
theorem sort_any (blk cap : Nat) (d : Array RuE) (w : World) (hH : HoldsK encRu 4 w blk 0 d) (hblk : blk < w.heap.size) (h12 : d.size ≤ 12) :
    Calls Tryz.prog 63 #[.slice (some ⟨blk, 0, none⟩) d.size cap, .func (.func 64) #[] #[]] w fun e w' => e = .returned (.tuple #[]) ∧ ∃ n os, w' = sortWorldK encRu 4 w blk 0 n (Sort.insertionSort (ltOf cfRu) d 0 d.size) os :=
  AnyQ.slices_SortFunc_small Tryz.sortRu 4 Tryz.isAgg59 Tryz.sizeOf59 encRu (fun _ => rfl) (fun x v hv => by simp [encRu] at hv; rcases hv with rfl | rfl | rfl | rfl <;> rfl) cfRu 64 #[] blk 0 cap d w
    (enters_of Tryz.func64 (by kernel_rfl) rfl) (order1_lays blk 0 d.size w) hH hblk h12 len_any
def d0 (u l : Nat) : Array RuE := #[(B tWk, (some ⟨u, 0, none⟩, 1, 1), (6, 1)), (B tLm, (some ⟨u + 1, 0, none⟩, 1, 1), (4, 16)), (B tPg, (some ⟨l, 0, none⟩, 1, 1), (5, 1024))]
def d1 (u l : Nat) : Array RuE := #[(B tLm, (some ⟨u + 1, 0, none⟩, 1, 1), (4, 16)), (B tWk, (some ⟨u, 0, none⟩, 1, 1), (6, 1)), (B tPg, (some ⟨l, 0, none⟩, 1, 1), (5, 1024))]
set_option maxRecDepth 100000 in
theorem sorted_d (u l : Nat) : Sort.insertionSort (ltOf cfRu) (d0 u l) 0 3 = d1 u l := by kernel_rfl
theorem flat_d0 (u l : Nat) : flatK encRu 4 (d0 u l) = (upX u ++ loX l).toArray := by kernel_rfl
theorem upX_one (u : Nat) : ∀ x ∈ upX u, x.oneCell' = true := by
  intro x hx
  simp only [upX, sl1, List.mem_cons, List.not_mem_nil, or_false] at hx
  rcases hx with rfl | rfl | rfl | rfl | rfl | rfl | rfl | rfl <;> rfl
theorem loX_one (l : Nat) : ∀ x ∈ loX l, x.oneCell' = true := by
  intro x hx
  simp only [loX, sl1, List.mem_cons, List.not_mem_nil, or_false] at hx
  rcases hx with rfl | rfl | rfl | rfl <;> rfl
theorem row_holds {w : World} {g : Nat} {cs : Array Value} {u l : Nat} (h : w.heap[g]? = some (.cells cs 59 (0, 0))) (ht : cs.toList.take 12 = upX u ++ loX l) : HoldsK encRu 4 w g 0 (d0 u l) := by
  unfold HoldsK
  rw [flat_d0]
  refine holds_of_block h fun j hj => ?_
  have hj12 : j < 12 := hj
  have h1 := congrArg (·[j]?) ht
  simp only [List.getElem?_take, if_pos hj12] at h1
  rw [← Array.getElem?_toList, h1, List.getElem?_eq_getElem (show j < (upX u ++ loX l).length from hj12)]
  simp only [List.getElem!_toArray, getElem!_pos (upX u ++ loX l) j (show j < (upX u ++ loX l).length from hj12)]

/-! ### The lists copied -/
def srcV (u l : Nat) : Nat → Value
  | 0 => sl1 (u + 1)
  | 1 => sl1 u
  | _ => sl1 l
structure Srcs (w : World) (u l : Nat) : Prop where
  b0 : w.heap[u]? = some (.cells #[.string (B tSv)] 9 (0, 0))
  b1 : w.heap[u + 1]? = some (.cells #[.string (B tWk)] 9 (0, 0))
  b2 : w.heap[l]? = some (.cells #[.string (B tCh)] 9 (0, 0))
theorem Srcs.below {w w' : World} {u l : Nat} (h : Srcs w u l) (hb : Below w.heap.size w w') : Srcs w' u l :=
  ⟨(hb.block _ (lt_of_block h.b0)).trans h.b0, (hb.block _ (lt_of_block h.b1)).trans h.b1, (hb.block _ (lt_of_block h.b2)).trans h.b2⟩
theorem three {k : Nat} {m : Ru} (h : stdRu[k]? = some m) : (k = 0 ∧ m = ruLm) ∨ (k = 1 ∧ m = ruWk) ∨ (k = 2 ∧ m = ruPg) := by
  have hk : k < 3 := lt_get h
  rcases (show k = 0 ∨ k = 1 ∨ k = 2 by omega) with rfl | rfl | rfl
  · exact .inl ⟨rfl, (Option.some.inj h).symm⟩
  · exact .inr (.inl ⟨rfl, (Option.some.inj h).symm⟩)
  · exact .inr (.inr ⟨rfl, (Option.some.inj h).symm⟩)
theorem Srcs.at_ {w : World} {u l : Nat} (h : Srcs w u l) {k : Nat} {m : Ru} (hk : stdRu[k]? = some m) : ∃ q, srcV u l k = .slice (some ⟨q, 0, none⟩) 1 1 ∧ q < w.heap.size ∧ Txs w (.slice (some ⟨q, 0, none⟩) 1 1) m.needs := by
  have hone : ∀ (q : Nat) (t : List UInt8), w.heap[q]? = some (.cells #[.string (B t)] 9 (0, 0)) → Txs w (.slice (some ⟨q, 0, none⟩) 1 1) [t] := fun q t hq => by
    refine ⟨_, 1, rfl, Nat.le_refl _, .inr ⟨q, 0, rfl, lt_of_block hq, fun j x hx i v hv => ?_⟩⟩
    have hj : j = 0 := by have := lt_get hx; simp at this; omega
    subst hj
    obtain rfl := Option.some.inj hx
    have hi : i = 0 := by have := lt_get hv; simp [txC] at this; omega
    subst hi
    obtain rfl := Option.some.inj hv
    rw [cell_in hq]
    rfl
  rcases three hk with ⟨rfl, rfl⟩ | ⟨rfl, rfl⟩ | ⟨rfl, rfl⟩
  · exact ⟨u + 1, rfl, lt_of_block h.b1, hone _ _ h.b1⟩
  · exact ⟨u, rfl, lt_of_block h.b0, hone _ _ h.b0⟩
  · exact ⟨l, rfl, lt_of_block h.b2, hone _ _ h.b2⟩
/-- The row while the lists of needs are copied: done ahead of k. -/
def Part (w : World) (M g u l k : Nat) : Prop :=
  ∃ cs, w.heap[g]? = some (.cells cs 59 (0, 0)) ∧ 12 ≤ cs.size ∧ ∀ (i : Nat) (m : Ru), stdRu[i]? = some m → cs[i * 4]? = some (.string (B m.target)) ∧ cs[i * 4 + 2]? = some (.int .i64 m.op) ∧ cs[i * 4 + 3]? = some (.int .i64 m.add) ∧ (i < k → ∃ nv, cs[i * 4 + 1]? = some nv ∧ NewTx M w nv m.needs) ∧ (k ≤ i → cs[i * 4 + 1]? = some (srcV u l i))
theorem Part.below {w w' : World} {M g u l k : Nat} (h : Part w M g u l k) (hb : Below w.heap.size w w') : Part w' M g u l k := by
  obtain ⟨cs, h1, h2, h3⟩ := h
  refine ⟨cs, (hb.block _ (lt_of_block h1)).trans h1, h2, fun i m hi => ?_⟩
  obtain ⟨h4, h5, h6, h7, h8⟩ := h3 i m hi
  refine ⟨h4, h5, h6, fun hk => ?_, h8⟩
  obtain ⟨nv, e1, e2⟩ := h7 hk
  exact ⟨nv, e1, e2.later hb⟩
theorem Part.set {w : World} {M g u l k : Nat} {x : Ru} {nv : Value} (h : Part w M g u l k) (hk : stdRu[k]? = some x) (hn : NewTx M w nv x.needs) : Part (w.setCell ⟨g, k * 4 + 1, none⟩ nv) M g u l (k + 1) := by
  obtain ⟨cs, h1, h2, h3⟩ := h
  have hk3 : k < 3 := lt_get hk
  have hU : Upd [g] w (w.setCell ⟨g, k * 4 + 1, none⟩ nv) := (Upd.refl _ _).setCell (p := ⟨g, k * 4 + 1, none⟩) (.inl (by simp)) _
  have hSK : SK 9 w (w.setCell ⟨g, k * 4 + 1, none⟩ nv) := sk_upd hU (T' := 59) (fun q hq => by rw [List.mem_singleton] at hq; subst hq; exact ⟨cs, h1⟩) (by decide)
  refine ⟨_, heap_set h1 nv, by simpa using h2, fun i y hi => ?_⟩
  obtain ⟨h4, h5, h6, h7, h8⟩ := h3 i y hi
  have hi3 : i < 3 := lt_get hi
  refine ⟨?_, ?_, ?_, fun hlt => ?_, fun hge => ?_⟩
  · rw [Array.getElem?_setIfInBounds_ne (by omega)]; exact h4
  · rw [Array.getElem?_setIfInBounds_ne (by omega)]; exact h5
  · rw [Array.getElem?_setIfInBounds_ne (by omega)]; exact h6
  · by_cases he : i = k
    · subst he
      rw [hk] at hi
      obtain rfl := Option.some.inj hi
      exact ⟨nv, Array.getElem?_setIfInBounds_self_of_lt (by omega), hn.keep hSK⟩
    · obtain ⟨nv', e1, e2⟩ := h7 (by omega)
      exact ⟨nv', by rw [Array.getElem?_setIfInBounds_ne (by omega)]; exact e1, e2.keep hSK⟩
  · rw [Array.getElem?_setIfInBounds_ne (by omega)]
    exact h8 (by omega)
theorem Part.done {w : World} {M g u l : Nat} (hM : M ≤ g) (h : Part w M g u l 3) : ∃ RR, NewRu M w (.slice (some ⟨g, 0, none⟩) 3 3) RR stdRu := by
  obtain ⟨cs, h1, h2, h3⟩ := h
  obtain ⟨a0, a2, a3, a1, _⟩ := h3 0 ruLm rfl
  obtain ⟨b0, b2, b3, b1, _⟩ := h3 1 ruWk rfl
  obtain ⟨c0, c2, c3, c1, _⟩ := h3 2 ruPg rfl
  obtain ⟨va, a1, na⟩ := a1 (by omega)
  obtain ⟨vb, b1, nb⟩ := b1 (by omega)
  obtain ⟨vc, c1, nc⟩ := c1 (by omega)
  obtain ⟨pa, ca, rfl⟩ := na.form
  obtain ⟨pb, cb, rfl⟩ := nb.form
  obtain ⟨pc, cc, rfl⟩ := nc.form
  refine ⟨[⟨tLm, pa, 1, ca, 4, 16⟩, ⟨tWk, pb, 1, cb, 6, 1⟩, ⟨tPg, pc, 1, cc, 5, 1024⟩], .inr ⟨g, 3, cs, rfl, Nat.le_refl _, hM, h1, h2, fun i v hv => ?_⟩, rfl, fun i r m hr hm => ?_⟩
  · rw [Nat.zero_add]
    have hi : i < 12 := lt_get hv
    rcases (show i = 0 ∨ i = 1 ∨ i = 2 ∨ i = 3 ∨ i = 4 ∨ i = 5 ∨ i = 6 ∨ i = 7 ∨ i = 8 ∨ i = 9 ∨ i = 10 ∨ i = 11 by omega) with rfl | rfl | rfl | rfl | rfl | rfl | rfl | rfl | rfl | rfl | rfl | rfl <;> (obtain rfl := Option.some.inj hv; assumption)
  · rcases three hm with ⟨rfl, rfl⟩ | ⟨rfl, rfl⟩ | ⟨rfl, rfl⟩
    · obtain rfl := Option.some.inj hr; exact ⟨rfl, rfl, rfl, na⟩
    · obtain rfl := Option.some.inj hr; exact ⟨rfl, rfl, rfl, nb⟩
    · obtain rfl := Option.some.inj hr; exact ⟨rfl, rfl, rfl, nc⟩
theorem flat_at1 (u l j : Nat) (x : Ru) (hj : stdRu[j]? = some x) : (flatK encRu 4 (d1 u l))[j * 4]? = some (.string (B x.target)) ∧ (flatK encRu 4 (d1 u l))[j * 4 + 1]? = some (srcV u l j) ∧ (flatK encRu 4 (d1 u l))[j * 4 + 2]? = some (.int .i64 x.op) ∧ (flatK encRu 4 (d1 u l))[j * 4 + 3]? = some (.int .i64 x.add) := by
  rcases three hj with ⟨rfl, rfl⟩ | ⟨rfl, rfl⟩ | ⟨rfl, rfl⟩ <;> exact ⟨by kernel_rfl, by kernel_rfl, by kernel_rfl, by kernel_rfl⟩
theorem part_start {w : World} {M g u l n : Nat} {cs : Array Value} {os : Array Obj} (h : w.heap[g]? = some (.cells cs 59 (0, 0))) (hs : 12 ≤ cs.size) : Part (sortWorldK encRu 4 w g 0 n (d1 u l) os) M g u l 0 := by
  refine ⟨_, sorted_block h, by rw [putCells_size]; exact hs, fun i x hi => ?_⟩
  obtain ⟨h1, h2, h3, h4⟩ := flat_at1 u l i x hi
  have hi3 : i < 3 := lt_get hi
  have hF : (flatK encRu 4 (d1 u l)).size = 12 := by simp [flatK]; rfl
  refine ⟨?_, ?_, ?_, fun h => by omega, fun _ => ?_⟩
  · rw [putCells_at _ _ _ (by omega) (by omega), ← Array.getElem?_eq_getElem]; exact h1
  · rw [putCells_at _ _ _ (by omega) (by omega), ← Array.getElem?_eq_getElem]; exact h3
  · rw [putCells_at _ _ _ (by omega) (by omega), ← Array.getElem?_eq_getElem]; exact h4
  · rw [putCells_at _ _ _ (by omega) (by omega), ← Array.getElem?_eq_getElem]; exact h2
end Go.Proofs.YtbelnaiekbfoiaaGreatDoor.dr
/- Package derive: Standard; the document's Standard. No conditions. -/
namespace Go.Proofs.YtbelnaiekbfoiaaGreatDoor.dr
open Go.ChangeShapes Go.WideShapes Go.ChangeAt Go.RowKit Go.Sort Go.Lib gl va ls ky ly

theorem infoTx : (Tryz.prog.info? 9).map (fun i => (i.zero, i.size, i.bytes)) = some (some (.string .empty), 1, 16) := by kernel_rfl
theorem cloneT_any (p : Option Addr) (m c : Nat) (l : List (List UInt8)) (hm : m ≤ 4294967295) (w : World) (h : Txs w (.slice p m c) l) :
    Calls Tryz.prog 66 #[.slice p m c] w fun e w' => (∃ v, e = .returned v ∧ NewTx w.heap.size w' v l) ∧ Below w.heap.size w w' := by
  refine (clone_list Tryz.cloneStr txC_len txC_one (by decide) infoTx rfl (by decide) Tryz.sizeOf9 p m c l hm w h).mono ?_
  rintro e w' ⟨v, rfl, hv, hb⟩
  exact ⟨⟨v, rfl, rw.own_new txC_len (by decide) hv⟩, hb⟩
theorem own_rules {w : World} {M n : Nat} {v : Value} {xs : List Value} (h : w.ownsRow M 59 4 v n xs) (hn : 0 < n) : ∃ g cap cs, v = .slice (some ⟨g, 0, none⟩) n cap ∧ M ≤ g ∧ n ≤ cap ∧ w.heap[g]? = some (.cells cs 59 (0, 0)) ∧ n * 4 ≤ cs.size ∧ cs.toList.take (n * 4) = xs := by
  rcases h.2 with ⟨_, h0⟩ | ⟨g, cap, cur, hv, hb, hg, hnc, _, hs, ht⟩
  · omega
  · exact ⟨g, cap, cur, hv, hb, hnc, hg, by omega, ht⟩
theorem new_at {w : World} {n : Nat} (h : w.heap.size = n) (o : Obj) : (w.alloc o).heap[n]? = some o := by subst h; exact heap_alloc_new w o
theorem srcs_new (w : World) (o : Obj) : Srcs ((loW (upW w)).alloc o) w.heap.size (w.heap.size + 3) := by
  refine ⟨?_, ?_, ?_⟩
  · exact heap_al (heap_al (heap_al (heap_al (heap_al (heap_alloc_new w _) _) _) _) _) _
  · exact heap_al (heap_al (heap_al (heap_al (new_at (by simp) _) _) _) _) _
  · exact heap_al (heap_al (new_at (by simp [upW]) _) _) _
theorem up_block (w : World) (o : Obj) : ((loW (upW w)).alloc o).heap[w.heap.size + 2]? = some (.cells (upX w.heap.size).toArray 59 (0, 0)) := by
  refine heap_al (heap_al (heap_al ?_ _) _) _
  exact new_at (by simp) _
theorem lo_block (w : World) (o : Obj) : ((loW (upW w)).alloc o).heap[w.heap.size + 3 + 1]? = some (.cells (loX (w.heap.size + 3)).toArray 59 (0, 0)) := by
  have hz : (upW w).heap.size = w.heap.size + 3 := by simp [upW]
  refine heap_al ?_ _
  unfold loW
  rw [hz]
  exact new_at (by simp [hz]) _
theorem low_bel (w : World) (o : Obj) : Below w.heap.size w ((loW (upW w)).alloc o) := by
  unfold loW upW
  refine Below.alloc (Below.alloc (Below.alloc (Below.alloc (Below.alloc ((Below.refl _ _).alloc (Nat.le_refl _) _) ?_ _) ?_ _) ?_ _) ?_ _) ?_ _ <;> simp only [World.size_alloc] <;> omega
theorem sorted_upd {α : Type} [Inhabited α] {enc : α → List Value} {k : Nat} {w : World} {blk off n : Nat} {d : Array α} {os : Array Obj} : Upd [blk] w (sortWorldK enc k w blk off n d os) := by
  refine ⟨rfl, rfl, rfl, ?_, fun i hi hn => ?_⟩
  · show w.heap.size ≤ (w.heap.modify blk _ ++ os).size
    simp
  · show (w.heap.modify blk _ ++ os)[i]? = _
    rw [Array.getElem?_append_left (by simp; omega), Array.getElem?_modify, if_neg (by rintro rfl; exact hn (List.mem_singleton.2 rfl))]
theorem Srcs.upd {w w' : World} {u l g : Nat} {cs : Array Value} (h : Srcs w u l) (hg : w.heap[g]? = some (.cells cs 59 (0, 0))) (hu : Upd [g] w w') : Srcs w' u l := by
  have hne : ∀ (q : Nat) (c : Array Value), w.heap[q]? = some (.cells c 9 (0, 0)) → q ∉ [g] := fun q c hq hm => by
    rw [List.mem_singleton] at hm
    subst hm
    rw [hq] at hg
    injection hg with e
    injection e with _ e _
    exact absurd e (by decide)
  exact ⟨hu.obj h.b0 (hne _ _ h.b0), hu.obj h.b1 (hne _ _ h.b1), hu.obj h.b2 (hne _ _ h.b2)⟩
set_option maxHeartbeats 4000000 in
set_option maxRecDepth 100000 in
theorem std_any (w : World) : Calls Tryz.prog 26 #[] w fun e w' => (∃ p RR, e = .returned (.slice p 3 3) ∧ NewRu w.heap.size w' (.slice p 3 3) RR stdRu) ∧ Below w.heap.size w w' := by
  go_enter Tryz.func26, Tryz.ntmps26
  go_wp2_with fail
  refine (boot_any w).mono ?_
  rintro e w1 ⟨rfl, rfl⟩
  go_wp2_with fail
  refine (store_any (upW w)).mono ?_
  rintro e w2 ⟨rfl, rfl⟩
  have hz1 : (upW w).heap.size = w.heap.size + 3 := by simp [upW]
  rw [hz1]
  have HB := Lib.hid fun o => low_bel w o
  have HS := Lib.hid fun o => srcs_new w o
  have HU := Lib.hid fun o => up_block w o
  have HL := Lib.hid fun o => lo_block w o
  generalize loW (upW w) = W2 at *
  clear hz1
  obtain ⟨o, ho⟩ : ∃ o, o = Obj.cells #[.slice (some ⟨w.heap.size + 2, 0, none⟩) 2 2, .slice (some ⟨w.heap.size + 3 + 1, 0, none⟩) 1 1] 55 (0, 0) := ⟨_, rfl⟩
  have hbC := HB.out o
  have hSc := HS.out o
  have hUp := HU.out o
  have hLo := HL.out o
  obtain ⟨W3, hW3⟩ : ∃ W3, W3 = W2.alloc o := ⟨_, rfl⟩
  have kb : W3.heap[W2.heap.size]? = some o := by rw [hW3]; exact heap_alloc_new W2 o
  rw [← hW3] at hbC hSc hUp hLo
  rw [ho] at kb hW3
  have HC := Lib.hid (concat_any W3 W2.heap.size (w.heap.size + 2) (w.heap.size + 3 + 1) (upX w.heap.size) (loX (w.heap.size + 3)) (cell_in kb) (cell_in kb) rfl rfl (fun j u hj => by rw [cell_in hUp, List.getElem?_toArray]; exact hj) (fun j u hj => by rw [cell_in hLo, List.getElem?_toArray]; exact hj) (upX_one _) (loX_one _))
  have HW3 := Lib.hid hW3
  have HbC := Lib.hid hbC
  have HSc := Lib.hid hSc
  clear hW3 ho hbC hSc hUp hLo kb HB HS HU HL
  go_wp2_with fail
  rw [← HW3.out]
  have hz3 : w.heap.size ≤ W3.heap.size := HbC.out.size
  refine HC.out.mono ?_
  rintro e w4 ⟨v, rfl, hown, hb4⟩
  obtain ⟨g, cap, cs, rfl, hMg, hcap, hg, hcs, hct⟩ := own_rules hown (by omega)
  have HG := Lib.hid hg
  have HCT := Lib.hid hct
  have Hb4 := Lib.hid (HbC.out.trans (hb4.mono hz3))
  have HS4 := Lib.hid (HSc.out.below hb4)
  have hz4 : w.heap.size ≤ w4.heap.size := Hb4.out.size
  have hwg : w.heap.size ≤ g := Nat.le_trans hz3 hMg
  have hgl := lt_of_block hg
  obtain ⟨u, hu⟩ : ∃ u, u = w.heap.size := ⟨_, rfl⟩
  obtain ⟨l, hl⟩ : ∃ l, l = w.heap.size + 3 := ⟨_, rfl⟩
  rw [← hl, ← hu] at HS4 HCT
  clear hown hb4 hg hct HC HW3 HbC HSc hu hl
  go_wp2_with fail
  refine (sort_any g cap (d0 u l) w4 (row_holds HG.out HCT.out) hgl (by show 3 ≤ 12; omega)).mono ?_
  rintro e w5 ⟨rfl, n, os, hw5⟩
  rw [show (d0 u l).size = 3 from rfl, sorted_d] at hw5
  have HB5 : Hid (Below w.heap.size w w5) := Lib.hid (by rw [hw5]; exact Hb4.out.trans (sorted_below hwg hz4))
  have HP : Hid (Part w5 w.heap.size g u l 0) := Lib.hid (by rw [hw5]; exact part_start HG.out (by omega))
  have HS5 : Hid (Srcs w5 u l) := Lib.hid (by
    have hU : Upd [g] w4 w5 := by rw [hw5]; exact sorted_upd
    exact HS4.out.upd HG.out hU)
  clear hw5 HG HCT HS4 Hb4
  go_wp2_with fail
  go_loopw [11] (fun i wr => ∃ k : Nat, k ≤ 3 ∧ i = .int .i64 (k : Int) ∧ Hid (Part wr w.heap.size g u l k) ∧ Hid (Srcs wr u l) ∧ Hid (Below w.heap.size w wr)) (fun i _ => (3 - intOf i).toNat)
  case atStart => exact ⟨0, by omega, rfl, HP, HS5, HB5⟩
  case round =>
    clear HP HS5 HB5
    obtain ⟨k, hk, rfl, HPr, HSr, HBr⟩ := hrel
    obtain ⟨wo, rfl⟩ : ∃ wo, wo = wr := ⟨_, rfl⟩
    by_cases hlt : k < 3
    · have hlt' : (k : Int) < 3 := by omega
      have hk0 : (0 : Int) ≤ (k : Int) := by omega
      obtain ⟨x, hx⟩ : ∃ x, stdRu[k]? = some x := ⟨_, List.getElem?_eq_getElem (show k < stdRu.length from hlt)⟩
      have Hx := Lib.hid hx
      obtain ⟨cr, hcr, hcr12, hall⟩ := HPr.out
      obtain ⟨_, _, _, _, hsrc⟩ := hall k x hx
      obtain ⟨q, hq, hql, htx⟩ := HSr.out.at_ hx
      have hc : wo.cell? ⟨g, k * 4 + 1, none⟩ = some (.slice (some ⟨q, 0, none⟩) 1 1) := by rw [← hq]; exact (cell_in hcr).trans (hsrc (Nat.le_refl _))
      have hf : wo.frozen? ⟨g, k * 4 + 1, none⟩ = false := free_in hcr
      have hgr := lt_of_block hcr
      have HTx := Lib.hid htx
      have hq1 : x.needs.length = 1 := htx.ptr.1
      clear hx hcr hall hsrc hq htx hcr12
      go_wp2_with fail
      refine (cloneT_any (some ⟨q, 0, none⟩) 1 1 x.needs (by omega) wo HTx.out).mono ?_
      rintro e w6 ⟨⟨nv, rfl, hnv⟩, hb6⟩
      have HN6 := Lib.hid (rw.NewRw.mono hnv HBr.out.size)
      have HP6 := Lib.hid (HPr.out.below hb6)
      have HS6 := Lib.hid (HSr.out.below hb6)
      have HB6 := Lib.hid (HBr.out.trans (hb6.mono HBr.out.size))
      have hc6 : w6.cell? ⟨g, k * 4 + 1, none⟩ = some (.slice (some ⟨q, 0, none⟩) 1 1) := (hb6.cell (p := ⟨g, k * 4 + 1, none⟩) hgr).trans hc
      have hf6 : w6.frozen? ⟨g, k * 4 + 1, none⟩ = false := (hb6.frozen (p := ⟨g, k * 4 + 1, none⟩) hgr).trans hf
      have hg6 : g < w6.heap.size := by have := hb6.size; omega
      clear hnv hb6 hc hf
      obtain ⟨pn, cn, rfl⟩ := HN6.out.form
      rw [hq1] at HN6 ⊢
      go_wp2_with fail
      go_roundw
      case rel =>
        refine ⟨k + 1, by omega, by go_num, Lib.hid (HP6.out.set Hx.out HN6.out), ?_, Lib.hid (HB6.out.setCell (p := ⟨g, k * 4 + 1, none⟩) hwg _)⟩
        obtain ⟨cq, hcq, _⟩ := HP6.out
        exact Lib.hid (HS6.out.upd hcq ((Upd.refl [g] w6).setCell (p := ⟨g, k * 4 + 1, none⟩) (.inl (by simp)) _))
      case measure => simp [intOf]; omega
    · obtain rfl : k = 3 := by omega
      rw [show ((3 : Nat) : Int) = 3 from rfl]
      go_wp2_with fail
      refine (clip_any (some ⟨g, 0, none⟩) 3 cap hcap (by omega) wo).mono ?_
      rintro e w7 ⟨rfl, rfl⟩
      obtain ⟨RR, hR⟩ := Part.done hwg HPr.out
      have HRR := Lib.hid hR
      clear hR
      go_wp2_with fail
      go_ret
      exact ⟨⟨_, RR, rfl, HRR.out⟩, HBr.out⟩
theorem one_new {W : World} {M q : Nat} {t : List UInt8} (h : W.heap[q]? = some (.cells #[.string (B t)] 9 (0, 0))) (hM : M ≤ q) : NewTx M W (.slice (some ⟨q, 0, none⟩) 1 1) [t] := by
  refine .inr ⟨q, 1, _, rfl, Nat.le_refl _, hM, h, by simp, fun i v hv => ?_⟩
  rw [Nat.zero_add]
  have hi : i = 0 := by have := lt_get hv; simp [rw.flat, txC] at this; omega
  subst hi
  exact hv
def rfW (w : World) : World := (((w.alloc (.cells #[.string (B tWk)] 9)).alloc (.cells #[.string (B tSv)] 9)).alloc (.cells #[.string (B tCh)] 9)).alloc (.cells #[.string (B tLm), sl1 w.heap.size, .int .i64 4, .int .i64 16, .string (B tWk), sl1 (w.heap.size + 1), .int .i64 6, .int .i64 1, .string (B tPg), sl1 (w.heap.size + 1 + 1), .int .i64 5, .int .i64 1024] 59)
theorem rf_bel (w : World) : Below w.heap.size w (rfW w) := by
  unfold rfW
  refine Below.alloc (Below.alloc (Below.alloc ((Below.refl _ _).alloc (Nat.le_refl _) _) ?_ _) ?_ _) ?_ _ <;> simp only [World.size_alloc] <;> omega
theorem rf_new (w : World) : ∃ RR, NewRu w.heap.size (rfW w) (.slice (some ⟨w.heap.size + 1 + 1 + 1, 0, none⟩) 3 3) RR stdRu := by
  have k0 : (rfW w).heap[w.heap.size]? = some (.cells #[.string (B tWk)] 9 (0, 0)) := heap_al (heap_al (heap_al (heap_alloc_new w _) _) _) _
  have k1 : (rfW w).heap[w.heap.size + 1]? = some (.cells #[.string (B tSv)] 9 (0, 0)) := heap_al (heap_al (new_at (by simp) _) _) _
  have k2 : (rfW w).heap[w.heap.size + 1 + 1]? = some (.cells #[.string (B tCh)] 9 (0, 0)) := heap_al (new_at (by simp) _) _
  have k3 : (rfW w).heap[w.heap.size + 1 + 1 + 1]? = some (.cells #[.string (B tLm), sl1 w.heap.size, .int .i64 4, .int .i64 16, .string (B tWk), sl1 (w.heap.size + 1), .int .i64 6, .int .i64 1, .string (B tPg), sl1 (w.heap.size + 1 + 1), .int .i64 5, .int .i64 1024] 59 (0, 0)) := new_at (by simp) _
  generalize rfW w = W at *
  refine Part.done (u := 0) (l := 0) (by omega) ⟨_, k3, by simp, fun i m hi => ?_⟩
  rcases three hi with ⟨rfl, rfl⟩ | ⟨rfl, rfl⟩ | ⟨rfl, rfl⟩
  · exact ⟨rfl, rfl, rfl, fun _ => ⟨_, rfl, one_new k0 (Nat.le_refl _)⟩, fun h => by omega⟩
  · exact ⟨rfl, rfl, rfl, fun _ => ⟨_, rfl, one_new k1 (by omega)⟩, fun h => by omega⟩
  · exact ⟨rfl, rfl, rfl, fun _ => ⟨_, rfl, one_new k2 (by omega)⟩, fun h => by omega⟩
set_option maxRecDepth 100000 in
theorem refStd_any (w : World) : Calls Tryz.prog 25 #[] w fun e w' => (∃ p RR, e = .returned (.slice p 3 3) ∧ NewRu w.heap.size w' (.slice p 3 3) RR stdRu) ∧ Below w.heap.size w w' := by
  obtain ⟨RR, hR⟩ := rf_new w
  have HR := Lib.hid hR
  have HB := Lib.hid (rf_bel w)
  clear hR
  go_enter Tryz.func25, Tryz.ntmps25
  go_wp2_with fail
  go_ret
  exact ⟨⟨_, RR, rfl, HR.out⟩, HB.out⟩
end Go.Proofs.YtbelnaiekbfoiaaGreatDoor.dr
/- Package derive: plus, times, through. Conditions: numbers of at most 1048576. -/
namespace Go.Proofs.YtbelnaiekbfoiaaGreatDoor.dr
open Go.ChangeShapes Go.WideShapes Go.ChangeAt Go.RowKit gl va ls ky ly

theorem bounded_any (n : Int) (h0 : -4611686018427387904 ≤ n) (h1 : n ≤ 4611686018427387904) (w : World) : Calls Tryz.prog 236 #[.int .i64 n] w fun e w' => e = .returned (.bool true) ∧ w' = w := by
  go_enter Tryz.func236, Tryz.ntmps236
  go_wp2_with fail
  go_ret
  exact ⟨by first | rfl | simp [h0, h1], rfl⟩
theorem plus_any (a b : Int) (ha : 0 ≤ a) (ha2 : a ≤ 1048576) (hb : 0 ≤ b) (hb2 : b ≤ 1048576) (w : World) : Calls Tryz.prog 197 #[.int .i64 a, .int .i64 b] w fun e w' => e = .returned (.tuple #[.int .i64 (a + b), .bool true]) ∧ w' = w := by
  have hw : IntKind.i64.wrap (a + b) = a + b := IntWalk.i64_in _ (by omega)
  have HB := Lib.hid (bounded_any (a + b) (by omega) (by omega) w)
  go_enter Tryz.func197, Tryz.ntmps197
  go_wp2_with fail
  refine HB.out.mono ?_
  rintro e w1 ⟨rfl, rfl⟩
  go_wp2_with fail
  go_ret2
  exact ⟨rfl, rfl⟩
theorem times_13 (w : World) : Calls Tryz.prog 202 #[.int .i64 1, .int .i64 3] w fun e w' => e = .returned (.tuple #[.int .i64 3, .bool true]) ∧ w' = w := by
  have HB := Lib.hid (bounded_any 3 (by omega) (by omega) w)
  go_enter Tryz.func202, Tryz.ntmps202
  go_wp2_with fail
  refine HB.out.mono ?_
  rintro e w1 ⟨rfl, rfl⟩
  go_wp2_with fail
  go_ret2
  exact ⟨rfl, rfl⟩
theorem times_316 (w : World) : Calls Tryz.prog 202 #[.int .i64 3, .int .i64 16] w fun e w' => e = .returned (.tuple #[.int .i64 48, .bool true]) ∧ w' = w := by
  have HB := Lib.hid (bounded_any 48 (by omega) (by omega) w)
  go_enter Tryz.func202, Tryz.ntmps202
  go_wp2_with fail
  refine HB.out.mono ?_
  rintro e w1 ⟨rfl, rfl⟩
  go_wp2_with fail
  go_ret2
  exact ⟨rfl, rfl⟩
/-! ### A sum, a product -/
def ixC (n : Int) : List Value := [.int .i64 n]
theorem ixC_len : ∀ x, (ixC x).length = 1 := fun _ => rfl
theorem ixC_one : ∀ x, ∀ v ∈ ixC x, v.oneCell' = true := fun x v hv => by
  unfold ixC at hv
  rw [List.mem_singleton] at hv
  subst hv
  rfl
theorem infoIx : (Tryz.prog.info? 3).map (fun i => (i.zero, i.size, i.bytes)) = some (some (.int .i64 0), 1, 8) := by kernel_rfl
theorem cloneI_any (p : Option Addr) (m c : Nat) (l : List Int) (hm : m ≤ 4294967295) (w : World) (h : rw.Rw ixC 1 w (.slice p m c) l) :
    Calls Tryz.prog 235 #[.slice p m c] w fun e w' => (∃ v, e = .returned v ∧ w'.ownsRow w.heap.size 3 1 v m (rw.flat ixC l)) ∧ Below w.heap.size w w' := by
  refine (clone_list Tryz.cloneInt ixC_len ixC_one (by decide) infoIx rfl (by decide) Tryz.sizeOf3 p m c l hm w h).mono ?_
  rintro e w' ⟨v, rfl, hv, hb⟩
  exact ⟨⟨v, rfl, hv⟩, hb⟩
theorem plus_02 (w : World) : Calls Tryz.prog 197 #[.int .i64 0, .int .i64 2] w fun e w' => e = .returned (.tuple #[.int .i64 2, .bool true]) ∧ w' = w := plus_any 0 2 (by omega) (by omega) (by omega) (by omega) w
theorem plus_21 (w : World) : Calls Tryz.prog 197 #[.int .i64 2, .int .i64 1] w fun e w' => e = .returned (.tuple #[.int .i64 3, .bool true]) ∧ w' = w := plus_any 2 1 (by omega) (by omega) (by omega) (by omega) w
set_option maxHeartbeats 4000000 in
set_option maxRecDepth 100000 in
theorem through_plus (g1 g2 : Nat) (p : Option Addr) (c : Nat) (w : World) (h1 : w.heap[g1]? = some (.cells #[.int .i64 0] 3 (0, 0))) (h2 : w.cell? ⟨g2, 0, none⟩ = some (.func (.func 197) #[] #[])) (hg2 : g2 < w.heap.size) (hl : rw.Rw ixC 1 w (.slice p 1 c) [2]) :
    Calls Tryz.prog 234 #[.slice p 1 c, .int .i64 1, .pointer (some ⟨g1, 0, none⟩), .pointer (some ⟨g2, 0, none⟩)] w fun e w' => e = .returned (.tuple #[.int .i64 3, .bool true]) ∧ Below w.heap.size w w' := by
  obtain ⟨i1, si, sz0, sz1, sz2⟩ := info_parts infoIx
  have b0 : w.cell? ⟨g1, 0, none⟩ = some (.int .i64 0) := cell_in h1
  have hg1 := lt_of_block h1
  have HC := Lib.hid (cloneI_any p 1 c [2] (by omega) w hl)
  have HF := Lib.hid fun (W : World) (hW : Below w.heap.size w W) => (hW.cell (p := ⟨g2, 0, none⟩) hg2).trans h2
  clear h1 hl h2
  go_enter Tryz.func234, Tryz.ntmps234
  go_wp2_with fail
  refine HC.out.mono ?_
  rintro e w1 ⟨⟨v, rfl, hown⟩, hb1⟩
  have hbA : Below w1.heap.size w1 (w1.alloc (.cells #[.int .i64 1] 3)) := (Below.refl _ _).alloc (Nat.le_refl _) _
  have HO2 := Lib.hid (ls.own_kept hown hbA)
  have Hb2 := Lib.hid (hb1.trans (hbA.mono hb1.size))
  have hz2 : w.heap.size ≤ (w1.alloc (.cells #[.int .i64 1] 3)).heap.size := Hb2.out.size
  have Hsrc : Hid (SrcV (w1.alloc (.cells #[.int .i64 1] 3)) (.slice (some ⟨w1.heap.size, 0, none⟩) 1 1) 1 [.int .i64 1]) := Lib.hid (.inr ⟨by decide, _, _, rfl, fun i u hi => by
    rw [addN, cell_in (heap_alloc_new w1 (.cells #[.int .i64 1] 3)), Nat.zero_add, List.getElem?_toArray]
    exact hi⟩)
  have Ho1 : Hid (∀ u ∈ [Value.int .i64 1], u.oneCell' = true) := Lib.hid (by simp [Value.oneCell'])
  clear hown hb1 hbA HC b0
  focus
    go_wp2_with (at_builtin; go_must (refine wpList_append_any rfl _ _ 114 rfl 3 i1 _ 1 8 Tryz.underlying114 si sz0 sz1 sz2 rfl (by decide) w.heap.size _ 1 _ (by rfl) HO2.out _ 1 _ (by rfl) Hsrc.out (by rfl) Ho1.out (by omega) (by omega) hz2 ?_))
  intro p3 c3 w3 hown3 hgrow3
  have Hb3 := Lib.hid (below_grown_own Hb2.out HO2.out hgrow3 hz2)
  obtain ⟨g, hg, rfl⟩ : ∃ g, g < w3.heap.size ∧ p3 = some ⟨g, 0, none⟩ := by
    rcases hown3.2 with ⟨_, h0⟩ | ⟨g, cap, cur, e, _, hgb, _⟩
    · omega
    · cases e
      exact ⟨g, lt_of_block hgb, rfl⟩
  have e0 : w3.cell? ⟨g, 0, none⟩ = some (.int .i64 2) := by
    have := hown3.cells (g := g) rfl 0 (.int .i64 2) rfl
    rwa [add_zero'] at this
  have e1 : w3.cell? ⟨g, 1, none⟩ = some (.int .i64 1) := by
    have := hown3.cells (g := g) rfl 1 (.int .i64 1) rfl
    rwa [add_zero'] at this
  have e2 := HF.out w3 Hb3.out
  have hg3 : g2 < w3.heap.size := by have := Hb3.out.size; omega
  clear hown3 hgrow3 HO2 Hsrc Hb2
  go_wp2_with fail
  refine wp_loop_rounds 3 ?_
  rw [rounds_succ]
  go_wp2_with fail
  refine (plus_02 w3).mono ?_
  rintro e w4 ⟨rfl, rfl⟩
  go_wp2_with fail
  rw [rounds_succ]
  go_wp2_with fail
  refine (plus_21 w4).mono ?_
  rintro e w5 ⟨rfl, rfl⟩
  go_wp2_with fail
  rw [rounds_succ]
  go_wp2_with fail
  go_ret2
  exact ⟨rfl, Hb3.out⟩
set_option maxHeartbeats 4000000 in
set_option maxRecDepth 100000 in
theorem through_times (g1 g2 : Nat) (p : Option Addr) (c : Nat) (w : World) (h1 : w.heap[g1]? = some (.cells #[.int .i64 1] 3 (0, 0))) (h2 : w.cell? ⟨g2, 0, none⟩ = some (.func (.func 202) #[] #[])) (hg2 : g2 < w.heap.size) (hl : rw.Rw ixC 1 w (.slice p 1 c) [3]) :
    Calls Tryz.prog 234 #[.slice p 1 c, .int .i64 16, .pointer (some ⟨g1, 0, none⟩), .pointer (some ⟨g2, 0, none⟩)] w fun e w' => e = .returned (.tuple #[.int .i64 48, .bool true]) ∧ Below w.heap.size w w' := by
  obtain ⟨i1, si, sz0, sz1, sz2⟩ := info_parts infoIx
  have b0 : w.cell? ⟨g1, 0, none⟩ = some (.int .i64 1) := cell_in h1
  have hg1 := lt_of_block h1
  have HC := Lib.hid (cloneI_any p 1 c [3] (by omega) w hl)
  have HF := Lib.hid fun (W : World) (hW : Below w.heap.size w W) => (hW.cell (p := ⟨g2, 0, none⟩) hg2).trans h2
  clear h1 hl h2
  go_enter Tryz.func234, Tryz.ntmps234
  go_wp2_with fail
  refine HC.out.mono ?_
  rintro e w1 ⟨⟨v, rfl, hown⟩, hb1⟩
  have hbA : Below w1.heap.size w1 (w1.alloc (.cells #[.int .i64 16] 3)) := (Below.refl _ _).alloc (Nat.le_refl _) _
  have HO2 := Lib.hid (ls.own_kept hown hbA)
  have Hb2 := Lib.hid (hb1.trans (hbA.mono hb1.size))
  have hz2 : w.heap.size ≤ (w1.alloc (.cells #[.int .i64 16] 3)).heap.size := Hb2.out.size
  have Hsrc : Hid (SrcV (w1.alloc (.cells #[.int .i64 16] 3)) (.slice (some ⟨w1.heap.size, 0, none⟩) 1 1) 1 [.int .i64 16]) := Lib.hid (.inr ⟨by decide, _, _, rfl, fun i u hi => by
    rw [addN, cell_in (heap_alloc_new w1 (.cells #[.int .i64 16] 3)), Nat.zero_add, List.getElem?_toArray]
    exact hi⟩)
  have Ho1 : Hid (∀ u ∈ [Value.int .i64 16], u.oneCell' = true) := Lib.hid (by simp [Value.oneCell'])
  clear hown hb1 hbA HC b0
  focus
    go_wp2_with (at_builtin; go_must (refine wpList_append_any rfl _ _ 114 rfl 3 i1 _ 1 8 Tryz.underlying114 si sz0 sz1 sz2 rfl (by decide) w.heap.size _ 1 _ (by rfl) HO2.out _ 1 _ (by rfl) Hsrc.out (by rfl) Ho1.out (by omega) (by omega) hz2 ?_))
  intro p3 c3 w3 hown3 hgrow3
  have Hb3 := Lib.hid (below_grown_own Hb2.out HO2.out hgrow3 hz2)
  obtain ⟨g, hg, rfl⟩ : ∃ g, g < w3.heap.size ∧ p3 = some ⟨g, 0, none⟩ := by
    rcases hown3.2 with ⟨_, h0⟩ | ⟨g, cap, cur, e, _, hgb, _⟩
    · omega
    · cases e
      exact ⟨g, lt_of_block hgb, rfl⟩
  have e0 : w3.cell? ⟨g, 0, none⟩ = some (.int .i64 3) := by
    have := hown3.cells (g := g) rfl 0 (.int .i64 3) rfl
    rwa [add_zero'] at this
  have e1 : w3.cell? ⟨g, 1, none⟩ = some (.int .i64 16) := by
    have := hown3.cells (g := g) rfl 1 (.int .i64 16) rfl
    rwa [add_zero'] at this
  have e2 := HF.out w3 Hb3.out
  have hg3 : g2 < w3.heap.size := by have := Hb3.out.size; omega
  clear hown3 hgrow3 HO2 Hsrc Hb2
  go_wp2_with fail
  refine wp_loop_rounds 3 ?_
  rw [rounds_succ]
  go_wp2_with fail
  refine (times_13 w3).mono ?_
  rintro e w4 ⟨rfl, rfl⟩
  go_wp2_with fail
  rw [rounds_succ]
  go_wp2_with fail
  refine (times_316 w4).mono ?_
  rintro e w5 ⟨rfl, rfl⟩
  go_wp2_with fail
  rw [rounds_succ]
  go_wp2_with fail
  go_ret2
  exact ⟨rfl, Hb3.out⟩
end Go.Proofs.YtbelnaiekbfoiaaGreatDoor.dr
/- Package derive: the operations. No conditions. -/
namespace Go.Proofs.YtbelnaiekbfoiaaGreatDoor.dr
open Go.ChangeShapes Go.WideShapes Go.ChangeAt Go.RowKit gl va ls ky ly

abbrev clo (g : Nat) : Value := .func (.func 234) #[] #[.pointer (some ⟨g, 0, none⟩), .pointer (some ⟨g + 1, 0, none⟩)]
def thW (w : World) (n : Int) (f : Value) : World := (w.alloc (.cells #[.int .i64 n] 3)).alloc (.cells #[f] 243)
theorem through_new (n : Int) (k : Nat) (w : World) : Calls Tryz.prog 196 #[.int .i64 n, .func (.func k) #[] #[]] w fun e w' => e = .returned (clo w.heap.size) ∧ w' = thW w n (.func (.func k) #[] #[]) := by
  go_enter Tryz.func196, Tryz.ntmps196
  go_wp2_with fail
  go_ret
  exact ⟨rfl, rfl⟩
theorem th_size (w : World) (n : Int) (f : Value) : (thW w n f).heap.size = w.heap.size + 2 := by simp [thW]
theorem th_bel {w0 w : World} (n : Int) (f : Value) (h : Below w0.heap.size w0 w) : Below w0.heap.size w0 (thW w n f) := by
  unfold thW
  exact (h.alloc h.size _).alloc (by have := h.size; simp only [World.size_alloc]; omega) _
theorem th_0 (w : World) (n : Int) (f : Value) : (thW w n f).heap[w.heap.size]? = some (.cells #[.int .i64 n] 3 (0, 0)) := heap_al (heap_alloc_new w _) _
theorem th_1 (w : World) (n : Int) (f : Value) : (thW w n f).heap[w.heap.size + 1]? = some (.cells #[f] 243 (0, 0)) := new_at (by simp) _
theorem th_old {w : World} {n : Int} {f : Value} {g : Nat} {o : Obj} (h : w.heap[g]? = some o) : (thW w n f).heap[g]? = some o := heap_al (heap_al h _) _
abbrev fP : Value := .func (.func 197) #[] #[]
abbrev fT : Value := .func (.func 202) #[] #[]
/-- What the operations lie as: a list of function values, three of them with their boxes. -/
structure Opsw (W : World) (g b : Nat) : Prop where
  row : W.heap[g]? = some (.cells #[.nilFunc, clo b, .func (.func 198) #[] #[], .func (.func 200) #[] #[], clo (b + 2), .func (.func 203) #[] #[], clo (b + 4)] 209 (0, 0))
  t0 : W.heap[b + 2]? = some (.cells #[.int .i64 1] 3 (0, 0))
  t1 : W.heap[b + 2 + 1]? = some (.cells #[fT] 243 (0, 0))
  c0 : W.heap[b + 4]? = some (.cells #[.int .i64 0] 3 (0, 0))
  c1 : W.heap[b + 4 + 1]? = some (.cells #[fP] 243 (0, 0))
theorem ops_any (w : World) : Calls Tryz.prog 157 #[] w fun e w' => (∃ g, e = .returned (.slice (some ⟨g, 0, none⟩) 7 7) ∧ Opsw w' g w.heap.size) ∧ Below w.heap.size w w' := by
  go_enter Tryz.func157, Tryz.ntmps157
  go_wp2_with fail
  refine (through_new 0 197 w).mono ?_
  rintro e w1 ⟨rfl, rfl⟩
  go_wp2_with fail
  refine (through_new 1 202 (thW w 0 fP)).mono ?_
  rintro e w2 ⟨rfl, rfl⟩
  go_wp2_with fail
  refine (through_new 0 197 (thW (thW w 0 fP) 1 fT)).mono ?_
  rintro e w3 ⟨rfl, rfl⟩
  have s1 := th_size w 0 fP
  have s2 := th_size (thW w 0 fP) 1 fT
  have s3 := th_size (thW (thW w 0 fP) 1 fT) 0 fP
  have k0 := th_old (n := 0) (f := fP) (th_0 (thW w 0 fP) 1 fT)
  have k1 := th_old (n := 0) (f := fP) (th_1 (thW w 0 fP) 1 fT)
  have k2 := th_0 (thW (thW w 0 fP) 1 fT) 0 fP
  have k3 := th_1 (thW (thW w 0 fP) 1 fT) 0 fP
  have hb := th_bel 0 fP (th_bel 1 fT (th_bel 0 fP (Below.refl w.heap.size w)))
  rw [s1] at k0 k1 s2
  rw [s2] at k2 k3 s3
  rw [s1, s2]
  generalize thW (thW (thW w 0 fP) 1 fT) 0 fP = W3 at *
  clear s1 s2
  have Hk0 := Lib.hid k0
  have Hk1 := Lib.hid k1
  have Hk2 := Lib.hid k2
  have Hk3 := Lib.hid k3
  have Hb := Lib.hid hb
  clear k0 k1 k2 k3 hb s3
  go_wp2_with fail
  go_ret
  exact ⟨⟨_, rfl, heap_alloc_new W3 _, heap_al Hk0.out _, heap_al Hk1.out _, heap_al Hk2.out _, heap_al Hk3.out _⟩, Hb.out.alloc Hb.out.size _⟩
theorem share_any (p : Option Addr) (c : Nat) (w : World) (h : rw.Rw ixC 1 w (.slice p 1 c) [4194304]) : Calls Tryz.prog 203 #[.slice p 1 c, .int .i64 1024] w fun e w' => e = .returned (.tuple #[.int .i64 4096, .bool true]) ∧ Below w.heap.size w w' := by
  obtain ⟨b, o, rfl, hb⟩ := h.ptr.2.2 (by omega)
  have c0 := rw.Rw.cell h (j := 0) rfl (i := 0) rfl
  rw [Nat.zero_mul, Nat.add_zero] at c0
  clear h
  go_enter Tryz.func203, Tryz.ntmps203
  go_wp2_with fail
  go_ret2
  exact ⟨rfl, Below.refl _ _⟩
end Go.Proofs.YtbelnaiekbfoiaaGreatDoor.dr
/- Package derive: what the three standard rules make of settings. Conditions: what the settings that they speak of hold. -/
namespace Go.Proofs.YtbelnaiekbfoiaaGreatDoor.dr
open Go.ChangeShapes Go.WideShapes Go.ChangeAt Go.RowKit gl va ls ky ly

set_option maxHeartbeats 4000000 in
set_option maxRecDepth 100000 in
theorem made_wk (M b : Nat) (hs : Value) (R : List Hd) (x : Hd) (hx : R[2]? = some x) (hv : x.v.words.length = 2) (hm : x.v.words.length ≤ 4294967295) (pn : Option Addr) (cn : Nat) (w : World) (h : LSet M w b hs stdK R) (ht : Txs w (.slice pn 1 cn) [tSv]) :
    Calls Tryz.prog 109 #[.pointer (some ⟨b, 0, none⟩), .agg #[.string (B tWk), .slice pn 1 cn, .int .i64 6, .int .i64 1]] w fun e w' => e = .returned (.tuple #[.int .i64 3, .bool true]) ∧ Below w.heap.size w w' := by
  obtain ⟨i1, si, sz0, sz1, sz2⟩ := info_parts infoIx
  obtain ⟨k, hk, hkn⟩ : ∃ k, stdK[2]? = some k ∧ k.name = tSv := ⟨_, rfl, rfl⟩
  have HG := Lib.hid fun (W : World) (hW : Below w.heap.size w W) => Get_any M b hs stdK R 2 k x hk hx std_asc (by decide) hm W (h.later hW)
  unfold sgV at HG
  rw [hkn, hv] at HG
  obtain ⟨gn, on, rfl, hgn⟩ := ht.ptr.2.2 (by omega)
  have n0 := tx_cell ht (j := 0) rfl
  rw [Nat.add_zero] at n0
  clear h ht hk hkn hx hv hm
  obtain ⟨⟨vk, vn, vt, vw⟩, xp, xc, xs⟩ := x
  simp only at HG
  generalize B tWk = tg at *
  generalize B tSv = nd at *
  go_enter Tryz.func109, Tryz.ntmps109
  go_upto_region 2 with fail
  refine go_nm (fun wA hA => ?_)
  have kR : wA.heap[w.heap.size]? = some (.cells #[.string tg, .slice (some ⟨gn, on, none⟩) 1 cn, .int .i64 6, .int .i64 1] 59 (0, 0)) := by rw [hA]; exact heap_alloc_new w _
  have hbA : Below w.heap.size w wA := by rw [hA]; exact (Below.refl _ _).alloc (Nat.le_refl _) _
  have a1 : wA.cell? ⟨w.heap.size, 1, none⟩ = some (.slice (some ⟨gn, on, none⟩) 1 cn) := cell_in kR
  have a5 : wA.cell? ⟨gn, on, none⟩ = some (.string nd) := (hbA.cell (p := ⟨gn, on, none⟩) hgn).trans n0
  have hgnA : gn < wA.heap.size := by have := hbA.size; omega
  have hlR := lt_of_block kR
  have HkR := Lib.hid kR
  have HbA := Lib.hid hbA
  clear hA kR hbA n0
  go_wp2_with fail
  refine wp_loop_rounds 2 ?_
  rw [rounds_succ]
  go_wp2_with fail
  refine (HG.out wA HbA.out).mono ?_
  rintro e w2 ⟨⟨p1, rfl, _⟩, hb2⟩
  have Hb2 := Lib.hid (HbA.out.trans (hb2.mono HbA.out.size))
  have HX2 := Lib.hid hb2
  have hz2 : w.heap.size ≤ w2.heap.size := Hb2.out.size
  clear hb2 a1 a5 HG
  go_upto_region 6 with fail
  refine go_nm (fun wB hB => ?_)
  have kS : wB.heap[w2.heap.size]? = some (.cells #[.string nd, .int .i64 vk, .int .i64 vn, .string vt, .slice p1 2 2, .int .i64 xs] 47 (0, 0)) := by rw [hB]; exact heap_alloc_new w2 _
  have hbB : Below w2.heap.size w2 wB := by rw [hB]; exact (Below.refl _ _).alloc (Nat.le_refl _) _
  have kRB := (hbB.block _ (by have := HX2.out.size; omega)).trans ((HX2.out.block _ hlR).trans HkR.out)
  have a2 : wB.cell? ⟨w.heap.size, 2, none⟩ = some (.int .i64 6) := cell_in kRB
  have s0 : wB.cell? ⟨w2.heap.size, 4, none⟩ = some (.slice p1 2 2) := cell_in kS
  have hl1 := lt_of_block kRB
  have hl2 := lt_of_block kS
  have HbB := Lib.hid (Hb2.out.trans (hbB.mono hz2))
  have HXB := Lib.hid (HX2.out.trans (hbB.mono HX2.out.size))
  have hzB : w.heap.size ≤ wB.heap.size := HbB.out.size
  have hbL : Below wB.heap.size wB (wB.alloc (.cells #[.int .i64 2] 3)) := (Below.refl _ _).alloc (Nat.le_refl _) _
  have HO3 : Hid ((wB.alloc (.cells #[.int .i64 2] 3)).ownsRow wB.heap.size 3 1 (.slice none 0 0) 0 (rw.flat ixC [])) := Lib.hid (World.ownsRow_nil _ _ _ _)
  have Hsrc : Hid (SrcV (wB.alloc (.cells #[.int .i64 2] 3)) (.slice (some ⟨wB.heap.size, 0, none⟩) 1 1) 1 (ixC 2)) := Lib.hid (.inr ⟨by decide, _, _, rfl, fun i u hi => by
    rw [addN, cell_in (heap_alloc_new wB (.cells #[.int .i64 2] 3)), Nat.zero_add, List.getElem?_toArray]
    exact hi⟩)
  have hz3 : wB.heap.size ≤ (wB.alloc (.cells #[.int .i64 2] 3)).heap.size := hbL.size
  have HbL := Lib.hid hbL
  clear hB kS hbB kRB hbL
  focus
    go_wp2_with (at_builtin; go_must (refine wpList_append_any rfl _ _ 114 rfl 3 i1 _ 1 8 Tryz.underlying114 si sz0 sz1 sz2 rfl (by decide) wB.heap.size _ 0 _ (by rfl) HO3.out _ 1 _ (by rfl) Hsrc.out (by rfl) (ixC_one _) (by omega) (by omega) hz3 ?_))
  intro pE cE wE hownE hgrowE
  have hbE := below_grown_own HbL.out HO3.out hgrowE hz3
  have HOE := Lib.hid ((rw.own_new ixC_len (by decide) (l := [2]) hownE).rw ixC_len)
  have HbE := Lib.hid (HbB.out.trans (hbE.mono hzB))
  have HXE := Lib.hid (HXB.out.trans (hbE.mono HXB.out.size))
  have HS := Lib.hid fun (W : World) (hW : Below wA.heap.size wA W) => (⟨cell_in ((hW.block _ hlR).trans HkR.out), cell_in ((hW.block _ hlR).trans HkR.out)⟩ : W.cell? ⟨w.heap.size, 2, none⟩ = some (.int .i64 6) ∧ W.cell? ⟨w.heap.size, 3, none⟩ = some (.int .i64 1))
  clear hownE hgrowE hbE HO3 Hsrc a2 s0
  go_wp2_with fail
  rw [rounds_succ]
  go_upto_region 10 with fail
  refine wp_region_held_drew (S := (fun W => W.cell? ⟨w.heap.size, 2, none⟩ = some (.int .i64 6) ∧ W.cell? ⟨w.heap.size, 3, none⟩ = some (.int .i64 1))) (by kernel_rfl) (HS.out _ HXE.out.drew) (fun hH0 => ?_)
  try dsimp only at hH0
  refine hk_take (i := 1) (d := some 42) (v := ?_) (by kernel_rfl) (by kernel_rfl) (by kernel_rfl) (by kernel_rfl) (fun _ _ _ h => h) (by kernel_rfl) ?hy (by assumption) ?_
  case hy => (intro w hSw; (try dsimp only at hSw); simp only [List.getElem?_toArray, List.getElem?_cons_succ, List.getElem?_cons_zero]; go_simp; all_goals (with_reducible rfl))
  try simp only [Act.put, List.setIfInBounds_toArray, List.set_cons_zero, List.set_cons_succ]
  refine hk_take (i := 2) (d := some 43) (v := ?_) (by kernel_rfl) (by kernel_rfl) (by kernel_rfl) (by kernel_rfl) (fun _ _ _ h => h) (by kernel_rfl) ?hy (by assumption) ?_
  case hy => (intro w hSw; (try dsimp only at hSw); simp only [List.getElem?_toArray, List.getElem?_cons_succ, List.getElem?_cons_zero]; go_simp; all_goals (with_reducible rfl))
  try simp only [Act.put, List.setIfInBounds_toArray, List.set_cons_zero, List.set_cons_succ]
  refine hk_take (i := 5) (d := some 46) (v := ?_) (by kernel_rfl) (by kernel_rfl) (by kernel_rfl) (by kernel_rfl) (fun _ _ _ h => h) (by kernel_rfl) ?hy (by assumption) ?_
  case hy => (intro w hSw; (try dsimp only at hSw); simp only [List.getElem?_toArray, List.getElem?_cons_succ, List.getElem?_cons_zero]; go_simp; all_goals (with_reducible rfl))
  try simp only [Act.put, List.setIfInBounds_toArray, List.set_cons_zero, List.set_cons_succ]
  refine hk_take (i := 6) (d := some 47) (v := ?_) (by kernel_rfl) (by kernel_rfl) (by kernel_rfl) (by kernel_rfl) (fun _ _ _ h => h) (by kernel_rfl) ?hy (by assumption) ?_
  case hy => (intro w hSw; (try dsimp only at hSw); simp only [List.getElem?_toArray, List.getElem?_cons_succ, List.getElem?_cons_zero]; go_simp; all_goals (with_reducible rfl))
  try simp only [Act.put, List.setIfInBounds_toArray, List.set_cons_zero, List.set_cons_succ]
  refine hk_take (i := 7) (d := some 48) (v := ?_) (by kernel_rfl) (by kernel_rfl) (by kernel_rfl) (by kernel_rfl) (fun _ _ _ h => h) (by kernel_rfl) ?hy (by assumption) ?_
  case hy => (intro w hSw; (try dsimp only at hSw); simp only [List.getElem?_toArray, List.getElem?_cons_succ, List.getElem?_cons_zero]; go_simp; all_goals (with_reducible rfl))
  try simp only [Act.put, List.setIfInBounds_toArray, List.set_cons_zero, List.set_cons_succ]
  refine hk_call (i := 0) (by kernel_rfl) (by kernel_rfl) (fun K hK => ?_)
  simp only [List.getElem?_toArray, List.getElem?_cons_zero]
  go_simp
  (with_reducible refine Calls.mono (ops_any _) ?_)
  rintro e w6 ⟨⟨gq, rfl, hops⟩, hb6⟩
  have HOps : Hid (Opsw w6 gq wE.heap.size) := Lib.hid hops
  have Hb6 := Lib.hid (HbE.out.drew.trans (hb6.mono HbE.out.drew.size))
  have HX6 := Lib.hid (HXE.out.drew.trans (hb6.mono HXE.out.drew.size))
  have HO6 := Lib.hid (HOE.out.later (Below.trans (Below.refl _ _).drew hb6))
  clear hops hb6 hH0
  go_wp2_with fail
  refine hK.out _ _ (HS.out _ HX6.out) (fun hH1 => ?_)
  clear hK K
  have f0 := cell_in (o := 6) HOps.out.row
  simp only [List.getElem?_toArray, List.getElem?_cons_succ, List.getElem?_cons_zero] at f0
  have f1 := lt_of_block HOps.out.row
  try simp only [Act.put, List.setIfInBounds_toArray, List.set_cons_zero, List.set_cons_succ]
  refine hk_take (i := 3) (d := some 44) (v := ?_) (by kernel_rfl) (by kernel_rfl) (by kernel_rfl) (by kernel_rfl) (fun _ _ _ h => h) (by kernel_rfl) ?hy (by assumption) ?_
  case hy => (intro w hSw; (try dsimp only at hSw); simp only [List.getElem?_toArray, List.getElem?_cons_succ, List.getElem?_cons_zero]; go_simp; all_goals (with_reducible rfl))
  try simp only [Act.put, List.setIfInBounds_toArray, List.set_cons_zero, List.set_cons_succ]
  refine hk_call (i := 4) (by kernel_rfl) (by kernel_rfl) (fun K hK => ?_)
  simp only [List.getElem?_toArray, List.getElem?_cons_succ, List.getElem?_cons_zero]
  go_simp
  refine hK.out _ _ hH1 (fun hH2 => ?_)
  clear hK K
  try simp only [Act.put, List.setIfInBounds_toArray, List.set_cons_zero, List.set_cons_succ]
  refine hk_call (i := 8) (by kernel_rfl) (by kernel_rfl) (fun K hK => ?_)
  simp only [List.getElem?_toArray, List.getElem?_cons_succ, List.getElem?_cons_zero]
  go_simp
  (with_reducible refine Calls.mono (through_plus _ _ _ _ w6 HOps.out.c0 (cell_in HOps.out.c1) (lt_of_block HOps.out.c1) HO6.out) ?_)
  rintro e w7 ⟨rfl, hb7⟩
  have Hb7 := Lib.hid (Hb6.out.trans (hb7.mono Hb6.out.size))
  have HX7 := Lib.hid (HX6.out.trans (hb7.mono HX6.out.size))
  clear hb7 hH2
  go_wp2_with fail
  refine hK.out _ _ (HS.out _ HX7.out) (fun hH3 => ?_)
  clear hK K
  try simp only [Act.put, List.setIfInBounds_toArray, List.set_cons_zero, List.set_cons_succ]
  refine hk_take (i := 9) (d := some 50) (v := ?_) (by kernel_rfl) (by kernel_rfl) (by kernel_rfl) (by kernel_rfl) (fun _ _ _ h => h) (by kernel_rfl) ?hy (by assumption) ?_
  case hy => (intro w hSw; (try dsimp only at hSw); simp only [List.getElem?_toArray, List.getElem?_cons_succ, List.getElem?_cons_zero]; go_simp; all_goals (with_reducible rfl))
  try simp only [Act.put, List.setIfInBounds_toArray, List.set_cons_zero, List.set_cons_succ]
  refine hk_take (i := 10) (d := some 51) (v := ?_) (by kernel_rfl) (by kernel_rfl) (by kernel_rfl) (by kernel_rfl) (fun _ _ _ h => h) (by kernel_rfl) ?hy (by assumption) ?_
  case hy => (intro w hSw; (try dsimp only at hSw); simp only [List.getElem?_toArray, List.getElem?_cons_succ, List.getElem?_cons_zero]; go_simp; all_goals (with_reducible rfl))
  try simp only [Act.put, List.setIfInBounds_toArray, List.set_cons_zero, List.set_cons_succ]
  refine hk_take (i := 11) (d := some 4) (v := ?_) (by kernel_rfl) (by kernel_rfl) (by kernel_rfl) (by kernel_rfl) (fun _ _ _ h => h) (by kernel_rfl) ?hy (by assumption) ?_
  case hy => (intro w hSw; (try dsimp only at hSw); simp only [List.getElem?_toArray, List.getElem?_cons_succ, List.getElem?_cons_zero]; go_simp; all_goals (with_reducible rfl))
  try simp only [Act.put, List.setIfInBounds_toArray, List.set_cons_zero, List.set_cons_succ]
  refine hk_take (i := 12) (d := some 5) (v := ?_) (by kernel_rfl) (by kernel_rfl) (by kernel_rfl) (by kernel_rfl) (fun _ _ _ h => h) (by kernel_rfl) ?hy (by assumption) ?_
  case hy => (intro w hSw; (try dsimp only at hSw); simp only [List.getElem?_toArray, List.getElem?_cons_succ, List.getElem?_cons_zero]; go_simp; all_goals (with_reducible rfl))
  try simp only [Act.put, List.setIfInBounds_toArray, List.set_cons_zero, List.set_cons_succ]
  refine wpAnyH_done (by kernel_rfl) ?_ _
  go_wp2_with fail
  go_ret2
  exact ⟨rfl, Hb7.out⟩
set_option maxHeartbeats 4000000 in
set_option maxRecDepth 100000 in
theorem made_lm (M b : Nat) (hs : Value) (R : List Hd) (x : Hd) (hx : R[3]? = some x) (hv : x.v.int = 3) (hm : x.v.words.length ≤ 4294967295) (pn : Option Addr) (cn : Nat) (w : World) (h : LSet M w b hs stdK R) (ht : Txs w (.slice pn 1 cn) [tWk]) :
    Calls Tryz.prog 109 #[.pointer (some ⟨b, 0, none⟩), .agg #[.string (B tLm), .slice pn 1 cn, .int .i64 4, .int .i64 16]] w fun e w' => e = .returned (.tuple #[.int .i64 48, .bool true]) ∧ Below w.heap.size w w' := by
  obtain ⟨i1, si, sz0, sz1, sz2⟩ := info_parts infoIx
  obtain ⟨k, hk, hkn⟩ : ∃ k, stdK[3]? = some k ∧ k.name = tWk := ⟨_, rfl, rfl⟩
  have HG := Lib.hid fun (W : World) (hW : Below w.heap.size w W) => Get_any M b hs stdK R 3 k x hk hx std_asc (by decide) hm W (h.later hW)
  unfold sgV at HG
  rw [hkn, hv] at HG
  obtain ⟨gn, on, rfl, hgn⟩ := ht.ptr.2.2 (by omega)
  have n0 := tx_cell ht (j := 0) rfl
  rw [Nat.add_zero] at n0
  clear h ht hk hkn hx hv hm
  obtain ⟨⟨vk, vn, vt, vw⟩, xp, xc, xs⟩ := x
  simp only at HG
  generalize B tLm = tg at *
  generalize B tWk = nd at *
  go_enter Tryz.func109, Tryz.ntmps109
  go_upto_region 2 with fail
  refine go_nm (fun wA hA => ?_)
  have kR : wA.heap[w.heap.size]? = some (.cells #[.string tg, .slice (some ⟨gn, on, none⟩) 1 cn, .int .i64 4, .int .i64 16] 59 (0, 0)) := by rw [hA]; exact heap_alloc_new w _
  have hbA : Below w.heap.size w wA := by rw [hA]; exact (Below.refl _ _).alloc (Nat.le_refl _) _
  have a1 : wA.cell? ⟨w.heap.size, 1, none⟩ = some (.slice (some ⟨gn, on, none⟩) 1 cn) := cell_in kR
  have a5 : wA.cell? ⟨gn, on, none⟩ = some (.string nd) := (hbA.cell (p := ⟨gn, on, none⟩) hgn).trans n0
  have hgnA : gn < wA.heap.size := by have := hbA.size; omega
  have hlR := lt_of_block kR
  have HkR := Lib.hid kR
  have HbA := Lib.hid hbA
  clear hA kR hbA n0
  go_wp2_with fail
  refine wp_loop_rounds 2 ?_
  rw [rounds_succ]
  go_wp2_with fail
  refine (HG.out wA HbA.out).mono ?_
  rintro e w2 ⟨⟨p1, rfl, _⟩, hb2⟩
  have Hb2 := Lib.hid (HbA.out.trans (hb2.mono HbA.out.size))
  have HX2 := Lib.hid hb2
  have hz2 : w.heap.size ≤ w2.heap.size := Hb2.out.size
  clear hb2 a1 a5 HG
  go_upto_region 6 with fail
  refine go_nm (fun wB hB => ?_)
  have kS : wB.heap[w2.heap.size]? = some (.cells #[.string nd, .int .i64 vk, .int .i64 3, .string vt, .slice p1 vw.length vw.length, .int .i64 xs] 47 (0, 0)) := by rw [hB]; exact heap_alloc_new w2 _
  have hbB : Below w2.heap.size w2 wB := by rw [hB]; exact (Below.refl _ _).alloc (Nat.le_refl _) _
  have kRB := (hbB.block _ (by have := HX2.out.size; omega)).trans ((HX2.out.block _ hlR).trans HkR.out)
  have a2 : wB.cell? ⟨w.heap.size, 2, none⟩ = some (.int .i64 4) := cell_in kRB
  have s0 : wB.cell? ⟨w2.heap.size, 2, none⟩ = some (.int .i64 3) := cell_in kS
  have hl1 := lt_of_block kRB
  have hl2 := lt_of_block kS
  have HbB := Lib.hid (Hb2.out.trans (hbB.mono hz2))
  have HXB := Lib.hid (HX2.out.trans (hbB.mono HX2.out.size))
  have hzB : w.heap.size ≤ wB.heap.size := HbB.out.size
  have hbL : Below wB.heap.size wB (wB.alloc (.cells #[.int .i64 3] 3)) := (Below.refl _ _).alloc (Nat.le_refl _) _
  have HO3 : Hid ((wB.alloc (.cells #[.int .i64 3] 3)).ownsRow wB.heap.size 3 1 (.slice none 0 0) 0 (rw.flat ixC [])) := Lib.hid (World.ownsRow_nil _ _ _ _)
  have Hsrc : Hid (SrcV (wB.alloc (.cells #[.int .i64 3] 3)) (.slice (some ⟨wB.heap.size, 0, none⟩) 1 1) 1 (ixC 3)) := Lib.hid (.inr ⟨by decide, _, _, rfl, fun i u hi => by
    rw [addN, cell_in (heap_alloc_new wB (.cells #[.int .i64 3] 3)), Nat.zero_add, List.getElem?_toArray]
    exact hi⟩)
  have hz3 : wB.heap.size ≤ (wB.alloc (.cells #[.int .i64 3] 3)).heap.size := hbL.size
  have HbL := Lib.hid hbL
  clear hB kS hbB kRB hbL
  focus
    go_wp2_with (at_builtin; go_must (refine wpList_append_any rfl _ _ 114 rfl 3 i1 _ 1 8 Tryz.underlying114 si sz0 sz1 sz2 rfl (by decide) wB.heap.size _ 0 _ (by rfl) HO3.out _ 1 _ (by rfl) Hsrc.out (by rfl) (ixC_one _) (by omega) (by omega) hz3 ?_))
  intro pE cE wE hownE hgrowE
  have hbE := below_grown_own HbL.out HO3.out hgrowE hz3
  have HOE := Lib.hid ((rw.own_new ixC_len (by decide) (l := [3]) hownE).rw ixC_len)
  have HbE := Lib.hid (HbB.out.trans (hbE.mono hzB))
  have HXE := Lib.hid (HXB.out.trans (hbE.mono HXB.out.size))
  have HS := Lib.hid fun (W : World) (hW : Below wA.heap.size wA W) => (⟨cell_in ((hW.block _ hlR).trans HkR.out), cell_in ((hW.block _ hlR).trans HkR.out)⟩ : W.cell? ⟨w.heap.size, 2, none⟩ = some (.int .i64 4) ∧ W.cell? ⟨w.heap.size, 3, none⟩ = some (.int .i64 16))
  clear hownE hgrowE hbE HO3 Hsrc a2 s0
  go_wp2_with fail
  rw [rounds_succ]
  go_upto_region 10 with fail
  refine wp_region_held_drew (S := (fun W => W.cell? ⟨w.heap.size, 2, none⟩ = some (.int .i64 4) ∧ W.cell? ⟨w.heap.size, 3, none⟩ = some (.int .i64 16))) (by kernel_rfl) (HS.out _ HXE.out.drew) (fun hH0 => ?_)
  try dsimp only at hH0
  refine hk_take (i := 1) (d := some 42) (v := ?_) (by kernel_rfl) (by kernel_rfl) (by kernel_rfl) (by kernel_rfl) (fun _ _ _ h => h) (by kernel_rfl) ?hy (by assumption) ?_
  case hy => (intro w hSw; (try dsimp only at hSw); simp only [List.getElem?_toArray, List.getElem?_cons_succ, List.getElem?_cons_zero]; go_simp; all_goals (with_reducible rfl))
  try simp only [Act.put, List.setIfInBounds_toArray, List.set_cons_zero, List.set_cons_succ]
  refine hk_take (i := 2) (d := some 43) (v := ?_) (by kernel_rfl) (by kernel_rfl) (by kernel_rfl) (by kernel_rfl) (fun _ _ _ h => h) (by kernel_rfl) ?hy (by assumption) ?_
  case hy => (intro w hSw; (try dsimp only at hSw); simp only [List.getElem?_toArray, List.getElem?_cons_succ, List.getElem?_cons_zero]; go_simp; all_goals (with_reducible rfl))
  try simp only [Act.put, List.setIfInBounds_toArray, List.set_cons_zero, List.set_cons_succ]
  refine hk_take (i := 5) (d := some 46) (v := ?_) (by kernel_rfl) (by kernel_rfl) (by kernel_rfl) (by kernel_rfl) (fun _ _ _ h => h) (by kernel_rfl) ?hy (by assumption) ?_
  case hy => (intro w hSw; (try dsimp only at hSw); simp only [List.getElem?_toArray, List.getElem?_cons_succ, List.getElem?_cons_zero]; go_simp; all_goals (with_reducible rfl))
  try simp only [Act.put, List.setIfInBounds_toArray, List.set_cons_zero, List.set_cons_succ]
  refine hk_take (i := 6) (d := some 47) (v := ?_) (by kernel_rfl) (by kernel_rfl) (by kernel_rfl) (by kernel_rfl) (fun _ _ _ h => h) (by kernel_rfl) ?hy (by assumption) ?_
  case hy => (intro w hSw; (try dsimp only at hSw); simp only [List.getElem?_toArray, List.getElem?_cons_succ, List.getElem?_cons_zero]; go_simp; all_goals (with_reducible rfl))
  try simp only [Act.put, List.setIfInBounds_toArray, List.set_cons_zero, List.set_cons_succ]
  refine hk_take (i := 7) (d := some 48) (v := ?_) (by kernel_rfl) (by kernel_rfl) (by kernel_rfl) (by kernel_rfl) (fun _ _ _ h => h) (by kernel_rfl) ?hy (by assumption) ?_
  case hy => (intro w hSw; (try dsimp only at hSw); simp only [List.getElem?_toArray, List.getElem?_cons_succ, List.getElem?_cons_zero]; go_simp; all_goals (with_reducible rfl))
  try simp only [Act.put, List.setIfInBounds_toArray, List.set_cons_zero, List.set_cons_succ]
  refine hk_call (i := 0) (by kernel_rfl) (by kernel_rfl) (fun K hK => ?_)
  simp only [List.getElem?_toArray, List.getElem?_cons_zero]
  go_simp
  (with_reducible refine Calls.mono (ops_any _) ?_)
  rintro e w6 ⟨⟨gq, rfl, hops⟩, hb6⟩
  have HOps : Hid (Opsw w6 gq wE.heap.size) := Lib.hid hops
  have Hb6 := Lib.hid (HbE.out.drew.trans (hb6.mono HbE.out.drew.size))
  have HX6 := Lib.hid (HXE.out.drew.trans (hb6.mono HXE.out.drew.size))
  have HO6 := Lib.hid (HOE.out.later (Below.trans (Below.refl _ _).drew hb6))
  clear hops hb6 hH0
  go_wp2_with fail
  refine hK.out _ _ (HS.out _ HX6.out) (fun hH1 => ?_)
  clear hK K
  have f0 := cell_in (o := 4) HOps.out.row
  simp only [List.getElem?_toArray, List.getElem?_cons_succ, List.getElem?_cons_zero] at f0
  have f1 := lt_of_block HOps.out.row
  try simp only [Act.put, List.setIfInBounds_toArray, List.set_cons_zero, List.set_cons_succ]
  refine hk_take (i := 3) (d := some 44) (v := ?_) (by kernel_rfl) (by kernel_rfl) (by kernel_rfl) (by kernel_rfl) (fun _ _ _ h => h) (by kernel_rfl) ?hy (by assumption) ?_
  case hy => (intro w hSw; (try dsimp only at hSw); simp only [List.getElem?_toArray, List.getElem?_cons_succ, List.getElem?_cons_zero]; go_simp; all_goals (with_reducible rfl))
  try simp only [Act.put, List.setIfInBounds_toArray, List.set_cons_zero, List.set_cons_succ]
  refine hk_call (i := 4) (by kernel_rfl) (by kernel_rfl) (fun K hK => ?_)
  simp only [List.getElem?_toArray, List.getElem?_cons_succ, List.getElem?_cons_zero]
  go_simp
  refine hK.out _ _ hH1 (fun hH2 => ?_)
  clear hK K
  try simp only [Act.put, List.setIfInBounds_toArray, List.set_cons_zero, List.set_cons_succ]
  refine hk_call (i := 8) (by kernel_rfl) (by kernel_rfl) (fun K hK => ?_)
  simp only [List.getElem?_toArray, List.getElem?_cons_succ, List.getElem?_cons_zero]
  go_simp
  (with_reducible refine Calls.mono (through_times _ _ _ _ w6 HOps.out.t0 (cell_in HOps.out.t1) (lt_of_block HOps.out.t1) HO6.out) ?_)
  rintro e w7 ⟨rfl, hb7⟩
  have Hb7 := Lib.hid (Hb6.out.trans (hb7.mono Hb6.out.size))
  have HX7 := Lib.hid (HX6.out.trans (hb7.mono HX6.out.size))
  clear hb7 hH2
  go_wp2_with fail
  refine hK.out _ _ (HS.out _ HX7.out) (fun hH3 => ?_)
  clear hK K
  try simp only [Act.put, List.setIfInBounds_toArray, List.set_cons_zero, List.set_cons_succ]
  refine hk_take (i := 9) (d := some 50) (v := ?_) (by kernel_rfl) (by kernel_rfl) (by kernel_rfl) (by kernel_rfl) (fun _ _ _ h => h) (by kernel_rfl) ?hy (by assumption) ?_
  case hy => (intro w hSw; (try dsimp only at hSw); simp only [List.getElem?_toArray, List.getElem?_cons_succ, List.getElem?_cons_zero]; go_simp; all_goals (with_reducible rfl))
  try simp only [Act.put, List.setIfInBounds_toArray, List.set_cons_zero, List.set_cons_succ]
  refine hk_take (i := 10) (d := some 51) (v := ?_) (by kernel_rfl) (by kernel_rfl) (by kernel_rfl) (by kernel_rfl) (fun _ _ _ h => h) (by kernel_rfl) ?hy (by assumption) ?_
  case hy => (intro w hSw; (try dsimp only at hSw); simp only [List.getElem?_toArray, List.getElem?_cons_succ, List.getElem?_cons_zero]; go_simp; all_goals (with_reducible rfl))
  try simp only [Act.put, List.setIfInBounds_toArray, List.set_cons_zero, List.set_cons_succ]
  refine hk_take (i := 11) (d := some 4) (v := ?_) (by kernel_rfl) (by kernel_rfl) (by kernel_rfl) (by kernel_rfl) (fun _ _ _ h => h) (by kernel_rfl) ?hy (by assumption) ?_
  case hy => (intro w hSw; (try dsimp only at hSw); simp only [List.getElem?_toArray, List.getElem?_cons_succ, List.getElem?_cons_zero]; go_simp; all_goals (with_reducible rfl))
  try simp only [Act.put, List.setIfInBounds_toArray, List.set_cons_zero, List.set_cons_succ]
  refine hk_take (i := 12) (d := some 5) (v := ?_) (by kernel_rfl) (by kernel_rfl) (by kernel_rfl) (by kernel_rfl) (fun _ _ _ h => h) (by kernel_rfl) ?hy (by assumption) ?_
  case hy => (intro w hSw; (try dsimp only at hSw); simp only [List.getElem?_toArray, List.getElem?_cons_succ, List.getElem?_cons_zero]; go_simp; all_goals (with_reducible rfl))
  try simp only [Act.put, List.setIfInBounds_toArray, List.set_cons_zero, List.set_cons_succ]
  refine wpAnyH_done (by kernel_rfl) ?_ _
  go_wp2_with fail
  go_ret2
  exact ⟨rfl, Hb7.out⟩
set_option maxHeartbeats 4000000 in
set_option maxRecDepth 100000 in
theorem made_pg (M b : Nat) (hs : Value) (R : List Hd) (x : Hd) (hx : R[13]? = some x) (hv : x.v.int = 4194304) (hm : x.v.words.length ≤ 4294967295) (pn : Option Addr) (cn : Nat) (w : World) (h : LSet M w b hs stdK R) (ht : Txs w (.slice pn 1 cn) [tCh]) :
    Calls Tryz.prog 109 #[.pointer (some ⟨b, 0, none⟩), .agg #[.string (B tPg), .slice pn 1 cn, .int .i64 5, .int .i64 1024]] w fun e w' => e = .returned (.tuple #[.int .i64 4096, .bool true]) ∧ Below w.heap.size w w' := by
  obtain ⟨i1, si, sz0, sz1, sz2⟩ := info_parts infoIx
  obtain ⟨k, hk, hkn⟩ : ∃ k, stdK[13]? = some k ∧ k.name = tCh := ⟨_, rfl, rfl⟩
  have HG := Lib.hid fun (W : World) (hW : Below w.heap.size w W) => Get_any M b hs stdK R 13 k x hk hx std_asc (by decide) hm W (h.later hW)
  unfold sgV at HG
  rw [hkn, hv] at HG
  obtain ⟨gn, on, rfl, hgn⟩ := ht.ptr.2.2 (by omega)
  have n0 := tx_cell ht (j := 0) rfl
  rw [Nat.add_zero] at n0
  clear h ht hk hkn hx hv hm
  obtain ⟨⟨vk, vn, vt, vw⟩, xp, xc, xs⟩ := x
  simp only at HG
  generalize B tPg = tg at *
  generalize B tCh = nd at *
  go_enter Tryz.func109, Tryz.ntmps109
  go_upto_region 2 with fail
  refine go_nm (fun wA hA => ?_)
  have kR : wA.heap[w.heap.size]? = some (.cells #[.string tg, .slice (some ⟨gn, on, none⟩) 1 cn, .int .i64 5, .int .i64 1024] 59 (0, 0)) := by rw [hA]; exact heap_alloc_new w _
  have hbA : Below w.heap.size w wA := by rw [hA]; exact (Below.refl _ _).alloc (Nat.le_refl _) _
  have a1 : wA.cell? ⟨w.heap.size, 1, none⟩ = some (.slice (some ⟨gn, on, none⟩) 1 cn) := cell_in kR
  have a5 : wA.cell? ⟨gn, on, none⟩ = some (.string nd) := (hbA.cell (p := ⟨gn, on, none⟩) hgn).trans n0
  have hgnA : gn < wA.heap.size := by have := hbA.size; omega
  have hlR := lt_of_block kR
  have HkR := Lib.hid kR
  have HbA := Lib.hid hbA
  clear hA kR hbA n0
  go_wp2_with fail
  refine wp_loop_rounds 2 ?_
  rw [rounds_succ]
  go_wp2_with fail
  refine (HG.out wA HbA.out).mono ?_
  rintro e w2 ⟨⟨p1, rfl, _⟩, hb2⟩
  have Hb2 := Lib.hid (HbA.out.trans (hb2.mono HbA.out.size))
  have HX2 := Lib.hid hb2
  have hz2 : w.heap.size ≤ w2.heap.size := Hb2.out.size
  clear hb2 a1 a5 HG
  go_upto_region 6 with fail
  refine go_nm (fun wB hB => ?_)
  have kS : wB.heap[w2.heap.size]? = some (.cells #[.string nd, .int .i64 vk, .int .i64 4194304, .string vt, .slice p1 vw.length vw.length, .int .i64 xs] 47 (0, 0)) := by rw [hB]; exact heap_alloc_new w2 _
  have hbB : Below w2.heap.size w2 wB := by rw [hB]; exact (Below.refl _ _).alloc (Nat.le_refl _) _
  have kRB := (hbB.block _ (by have := HX2.out.size; omega)).trans ((HX2.out.block _ hlR).trans HkR.out)
  have a2 : wB.cell? ⟨w.heap.size, 2, none⟩ = some (.int .i64 5) := cell_in kRB
  have s0 : wB.cell? ⟨w2.heap.size, 2, none⟩ = some (.int .i64 4194304) := cell_in kS
  have hl1 := lt_of_block kRB
  have hl2 := lt_of_block kS
  have HbB := Lib.hid (Hb2.out.trans (hbB.mono hz2))
  have HXB := Lib.hid (HX2.out.trans (hbB.mono HX2.out.size))
  have hzB : w.heap.size ≤ wB.heap.size := HbB.out.size
  have hbL : Below wB.heap.size wB (wB.alloc (.cells #[.int .i64 4194304] 3)) := (Below.refl _ _).alloc (Nat.le_refl _) _
  have HO3 : Hid ((wB.alloc (.cells #[.int .i64 4194304] 3)).ownsRow wB.heap.size 3 1 (.slice none 0 0) 0 (rw.flat ixC [])) := Lib.hid (World.ownsRow_nil _ _ _ _)
  have Hsrc : Hid (SrcV (wB.alloc (.cells #[.int .i64 4194304] 3)) (.slice (some ⟨wB.heap.size, 0, none⟩) 1 1) 1 (ixC 4194304)) := Lib.hid (.inr ⟨by decide, _, _, rfl, fun i u hi => by
    rw [addN, cell_in (heap_alloc_new wB (.cells #[.int .i64 4194304] 3)), Nat.zero_add, List.getElem?_toArray]
    exact hi⟩)
  have hz3 : wB.heap.size ≤ (wB.alloc (.cells #[.int .i64 4194304] 3)).heap.size := hbL.size
  have HbL := Lib.hid hbL
  clear hB kS hbB kRB hbL
  focus
    go_wp2_with (at_builtin; go_must (refine wpList_append_any rfl _ _ 114 rfl 3 i1 _ 1 8 Tryz.underlying114 si sz0 sz1 sz2 rfl (by decide) wB.heap.size _ 0 _ (by rfl) HO3.out _ 1 _ (by rfl) Hsrc.out (by rfl) (ixC_one _) (by omega) (by omega) hz3 ?_))
  intro pE cE wE hownE hgrowE
  have hbE := below_grown_own HbL.out HO3.out hgrowE hz3
  have HOE := Lib.hid ((rw.own_new ixC_len (by decide) (l := [4194304]) hownE).rw ixC_len)
  have HbE := Lib.hid (HbB.out.trans (hbE.mono hzB))
  have HXE := Lib.hid (HXB.out.trans (hbE.mono HXB.out.size))
  have HS := Lib.hid fun (W : World) (hW : Below wA.heap.size wA W) => (⟨cell_in ((hW.block _ hlR).trans HkR.out), cell_in ((hW.block _ hlR).trans HkR.out)⟩ : W.cell? ⟨w.heap.size, 2, none⟩ = some (.int .i64 5) ∧ W.cell? ⟨w.heap.size, 3, none⟩ = some (.int .i64 1024))
  clear hownE hgrowE hbE HO3 Hsrc a2 s0
  go_wp2_with fail
  rw [rounds_succ]
  go_upto_region 10 with fail
  refine wp_region_held_drew (S := (fun W => W.cell? ⟨w.heap.size, 2, none⟩ = some (.int .i64 5) ∧ W.cell? ⟨w.heap.size, 3, none⟩ = some (.int .i64 1024))) (by kernel_rfl) (HS.out _ HXE.out.drew) (fun hH0 => ?_)
  try dsimp only at hH0
  refine hk_take (i := 1) (d := some 42) (v := ?_) (by kernel_rfl) (by kernel_rfl) (by kernel_rfl) (by kernel_rfl) (fun _ _ _ h => h) (by kernel_rfl) ?hy (by assumption) ?_
  case hy => (intro w hSw; (try dsimp only at hSw); simp only [List.getElem?_toArray, List.getElem?_cons_succ, List.getElem?_cons_zero]; go_simp; all_goals (with_reducible rfl))
  try simp only [Act.put, List.setIfInBounds_toArray, List.set_cons_zero, List.set_cons_succ]
  refine hk_take (i := 2) (d := some 43) (v := ?_) (by kernel_rfl) (by kernel_rfl) (by kernel_rfl) (by kernel_rfl) (fun _ _ _ h => h) (by kernel_rfl) ?hy (by assumption) ?_
  case hy => (intro w hSw; (try dsimp only at hSw); simp only [List.getElem?_toArray, List.getElem?_cons_succ, List.getElem?_cons_zero]; go_simp; all_goals (with_reducible rfl))
  try simp only [Act.put, List.setIfInBounds_toArray, List.set_cons_zero, List.set_cons_succ]
  refine hk_take (i := 5) (d := some 46) (v := ?_) (by kernel_rfl) (by kernel_rfl) (by kernel_rfl) (by kernel_rfl) (fun _ _ _ h => h) (by kernel_rfl) ?hy (by assumption) ?_
  case hy => (intro w hSw; (try dsimp only at hSw); simp only [List.getElem?_toArray, List.getElem?_cons_succ, List.getElem?_cons_zero]; go_simp; all_goals (with_reducible rfl))
  try simp only [Act.put, List.setIfInBounds_toArray, List.set_cons_zero, List.set_cons_succ]
  refine hk_take (i := 6) (d := some 47) (v := ?_) (by kernel_rfl) (by kernel_rfl) (by kernel_rfl) (by kernel_rfl) (fun _ _ _ h => h) (by kernel_rfl) ?hy (by assumption) ?_
  case hy => (intro w hSw; (try dsimp only at hSw); simp only [List.getElem?_toArray, List.getElem?_cons_succ, List.getElem?_cons_zero]; go_simp; all_goals (with_reducible rfl))
  try simp only [Act.put, List.setIfInBounds_toArray, List.set_cons_zero, List.set_cons_succ]
  refine hk_take (i := 7) (d := some 48) (v := ?_) (by kernel_rfl) (by kernel_rfl) (by kernel_rfl) (by kernel_rfl) (fun _ _ _ h => h) (by kernel_rfl) ?hy (by assumption) ?_
  case hy => (intro w hSw; (try dsimp only at hSw); simp only [List.getElem?_toArray, List.getElem?_cons_succ, List.getElem?_cons_zero]; go_simp; all_goals (with_reducible rfl))
  try simp only [Act.put, List.setIfInBounds_toArray, List.set_cons_zero, List.set_cons_succ]
  refine hk_call (i := 0) (by kernel_rfl) (by kernel_rfl) (fun K hK => ?_)
  simp only [List.getElem?_toArray, List.getElem?_cons_zero]
  go_simp
  (with_reducible refine Calls.mono (ops_any _) ?_)
  rintro e w6 ⟨⟨gq, rfl, hops⟩, hb6⟩
  have HOps : Hid (Opsw w6 gq wE.heap.size) := Lib.hid hops
  have Hb6 := Lib.hid (HbE.out.drew.trans (hb6.mono HbE.out.drew.size))
  have HX6 := Lib.hid (HXE.out.drew.trans (hb6.mono HXE.out.drew.size))
  have HO6 := Lib.hid (HOE.out.later (Below.trans (Below.refl _ _).drew hb6))
  clear hops hb6 hH0
  go_wp2_with fail
  refine hK.out _ _ (HS.out _ HX6.out) (fun hH1 => ?_)
  clear hK K
  have f0 := cell_in (o := 5) HOps.out.row
  simp only [List.getElem?_toArray, List.getElem?_cons_succ, List.getElem?_cons_zero] at f0
  have f1 := lt_of_block HOps.out.row
  try simp only [Act.put, List.setIfInBounds_toArray, List.set_cons_zero, List.set_cons_succ]
  refine hk_take (i := 3) (d := some 44) (v := ?_) (by kernel_rfl) (by kernel_rfl) (by kernel_rfl) (by kernel_rfl) (fun _ _ _ h => h) (by kernel_rfl) ?hy (by assumption) ?_
  case hy => (intro w hSw; (try dsimp only at hSw); simp only [List.getElem?_toArray, List.getElem?_cons_succ, List.getElem?_cons_zero]; go_simp; all_goals (with_reducible rfl))
  try simp only [Act.put, List.setIfInBounds_toArray, List.set_cons_zero, List.set_cons_succ]
  refine hk_call (i := 4) (by kernel_rfl) (by kernel_rfl) (fun K hK => ?_)
  simp only [List.getElem?_toArray, List.getElem?_cons_succ, List.getElem?_cons_zero]
  go_simp
  refine hK.out _ _ hH1 (fun hH2 => ?_)
  clear hK K
  try simp only [Act.put, List.setIfInBounds_toArray, List.set_cons_zero, List.set_cons_succ]
  refine hk_call (i := 8) (by kernel_rfl) (by kernel_rfl) (fun K hK => ?_)
  simp only [List.getElem?_toArray, List.getElem?_cons_succ, List.getElem?_cons_zero]
  go_simp
  (with_reducible refine Calls.mono (share_any _ _ w6 HO6.out) ?_)
  rintro e w7 ⟨rfl, hb7⟩
  have Hb7 := Lib.hid (Hb6.out.trans (hb7.mono Hb6.out.size))
  have HX7 := Lib.hid (HX6.out.trans (hb7.mono HX6.out.size))
  clear hb7 hH2
  go_wp2_with fail
  refine hK.out _ _ (HS.out _ HX7.out) (fun hH3 => ?_)
  clear hK K
  try simp only [Act.put, List.setIfInBounds_toArray, List.set_cons_zero, List.set_cons_succ]
  refine hk_take (i := 9) (d := some 50) (v := ?_) (by kernel_rfl) (by kernel_rfl) (by kernel_rfl) (by kernel_rfl) (fun _ _ _ h => h) (by kernel_rfl) ?hy (by assumption) ?_
  case hy => (intro w hSw; (try dsimp only at hSw); simp only [List.getElem?_toArray, List.getElem?_cons_succ, List.getElem?_cons_zero]; go_simp; all_goals (with_reducible rfl))
  try simp only [Act.put, List.setIfInBounds_toArray, List.set_cons_zero, List.set_cons_succ]
  refine hk_take (i := 10) (d := some 51) (v := ?_) (by kernel_rfl) (by kernel_rfl) (by kernel_rfl) (by kernel_rfl) (fun _ _ _ h => h) (by kernel_rfl) ?hy (by assumption) ?_
  case hy => (intro w hSw; (try dsimp only at hSw); simp only [List.getElem?_toArray, List.getElem?_cons_succ, List.getElem?_cons_zero]; go_simp; all_goals (with_reducible rfl))
  try simp only [Act.put, List.setIfInBounds_toArray, List.set_cons_zero, List.set_cons_succ]
  refine hk_take (i := 11) (d := some 4) (v := ?_) (by kernel_rfl) (by kernel_rfl) (by kernel_rfl) (by kernel_rfl) (fun _ _ _ h => h) (by kernel_rfl) ?hy (by assumption) ?_
  case hy => (intro w hSw; (try dsimp only at hSw); simp only [List.getElem?_toArray, List.getElem?_cons_succ, List.getElem?_cons_zero]; go_simp; all_goals (with_reducible rfl))
  try simp only [Act.put, List.setIfInBounds_toArray, List.set_cons_zero, List.set_cons_succ]
  refine hk_take (i := 12) (d := some 5) (v := ?_) (by kernel_rfl) (by kernel_rfl) (by kernel_rfl) (by kernel_rfl) (fun _ _ _ h => h) (by kernel_rfl) ?hy (by assumption) ?_
  case hy => (intro w hSw; (try dsimp only at hSw); simp only [List.getElem?_toArray, List.getElem?_cons_succ, List.getElem?_cons_zero]; go_simp; all_goals (with_reducible rfl))
  try simp only [Act.put, List.setIfInBounds_toArray, List.set_cons_zero, List.set_cons_succ]
  refine wpAnyH_done (by kernel_rfl) ?_ _
  go_wp2_with fail
  go_ret2
  exact ⟨rfl, Hb7.out⟩
end Go.Proofs.YtbelnaiekbfoiaaGreatDoor.dr
/- Package derive: named of the standard rules. Conditions: the kinds of the settings that a rule speaks of. -/
namespace Go.Proofs.YtbelnaiekbfoiaaGreatDoor.dr
open Go.ChangeShapes Go.WideShapes Go.ChangeAt Go.RowKit gl va ls ky ly

set_option maxHeartbeats 2000000 in
set_option maxRecDepth 100000 in
theorem index1_any (g : Nat) (lb : Array Value) (eg : ∀ args w, (callFunc g args).run Tryz.prog w = .ok (.enter g args) w) (t : ByteArray) (r : Bool) (b o c : Nat) (w : World) (ht : w.cell? ⟨b, o, none⟩ = some (.string t)) (_hb : b < w.heap.size)
    (hp : Calls Tryz.prog g (#[.string t] ++ lb) w fun e w' => e = .returned (.bool r) ∧ Below w.heap.size w w') :
    Calls Tryz.prog 190 #[.slice (some ⟨b, o, none⟩) 1 c, .func (.func g) #[] lb] w fun e w' => e = .returned (.int .i64 (if r then 0 else -1)) ∧ Below w.heap.size w w' := by
  have hcall := hp
  clear hp
  cases r with
  | true =>
    go_enter Tryz.func190, Tryz.ntmps190
    go_wp2_with fail
    refine wp_loop_rounds 2 ?_
    rw [rounds_succ]
    go_wp2_with (go_at_fn g; refine hcall.mono ?_; rintro e w' ⟨rfl, hb'⟩; have Hb' := Lib.hid hb'; clear hb')
    go_ret
    exact ⟨rfl, Hb'.out⟩
  | false =>
    go_enter Tryz.func190, Tryz.ntmps190
    go_wp2_with fail
    refine wp_loop_rounds 2 ?_
    rw [rounds_succ]
    go_wp2_with (go_at_fn g; refine hcall.mono ?_; rintro e w' ⟨rfl, hb'⟩; have Hb' := Lib.hid hb'; clear hb')
    rw [rounds_succ]
    go_wp2_with fail
    go_ret
    exact ⟨rfl, Hb'.out⟩
theorem contains1_any (g : Nat) (lb : Array Value) (eg : ∀ args w, (callFunc g args).run Tryz.prog w = .ok (.enter g args) w) (t : ByteArray) (r : Bool) (b o c : Nat) (w : World) (ht : w.cell? ⟨b, o, none⟩ = some (.string t)) (hb : b < w.heap.size)
    (hp : Calls Tryz.prog g (#[.string t] ++ lb) w fun e w' => e = .returned (.bool r) ∧ Below w.heap.size w w') :
    Calls Tryz.prog 148 #[.slice (some ⟨b, o, none⟩) 1 c, .func (.func g) #[] lb] w fun e w' => e = .returned (.bool r) ∧ Below w.heap.size w w' := by
  have HI := Lib.hid (index1_any g lb eg t r b o c w ht hb hp)
  clear hp ht eg
  cases r with
  | true =>
    go_enter Tryz.func148, Tryz.ntmps148
    go_wp2_with fail
    refine HI.out.mono ?_
    rintro e w1 ⟨rfl, hb1⟩
    have Hb1 := Lib.hid hb1
    clear hb1
    go_wp2_with fail
    go_ret
    exact ⟨rfl, Hb1.out⟩
  | false =>
    go_enter Tryz.func148, Tryz.ntmps148
    go_wp2_with fail
    refine HI.out.mono ?_
    rintro e w1 ⟨rfl, hb1⟩
    have Hb1 := Lib.hid hb1
    clear hb1
    go_wp2_with fail
    go_ret
    exact ⟨rfl, Hb1.out⟩
theorem isNumber_2 (w : World) : Calls Tryz.prog 155 #[.int .i64 2] w fun e w' => e = .returned (.bool true) ∧ w' = w := by
  go_enter Tryz.func155, Tryz.ntmps155
  go_wp2_with fail
  go_ret
  exact ⟨rfl, rfl⟩
theorem isNumber_3 (w : World) : Calls Tryz.prog 155 #[.int .i64 3] w fun e w' => e = .returned (.bool true) ∧ w' = w := by
  go_enter Tryz.func155, Tryz.ntmps155
  go_wp2_with fail
  go_ret
  exact ⟨rfl, rfl⟩
end Go.Proofs.YtbelnaiekbfoiaaGreatDoor.dr
