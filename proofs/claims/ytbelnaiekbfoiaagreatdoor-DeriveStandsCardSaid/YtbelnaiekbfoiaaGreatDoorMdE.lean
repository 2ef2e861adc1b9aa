/- Laws and contracts on which the statement rests, part E: each text says what it proves, and its conditions. -/
import Derived.Test.YtbelnaiekbfoiaaGreatDoorMdB
import Derived.Deep.RegionHeld3
import Derived.Test.YtbelnaiekbfoiaaGreatDoorMdD
import Derived.Test.YtbelnaiekbfoiaaGreatDoorMdA
import Derived.Test.YtbelnaiekbfoiaaGreatDoorMdC
import Derived.Deep.AppendLies
import Derived.Laws.MakeOwn
import Derived.OwnWalk
import Derived.Laws.Concat
/- Laws for any program: the operations of a region that draws its order, taken one by one (a fact on the world that each of them keeps). No conditions beside those stated. -/
namespace Go.Proofs.YtbelnaiekbfoiaaGreatDoor
open Go.RowKit
section
variable {P : Program} {ops : Array Oper} {Q : Exit → Act → World → Prop} {md : Region.Mode} {S : World → Prop}
theorem hk_skip {i : Nat} {d : Option Tmp} {fuel : Nat} {listed : Array Bool} {a : Act} {w : World} (hd : (ops[i]?).map (fun o => o.dst) = some d)
    (hs : Region.noSelect ops = true) (hf : Region.free md ops listed i = true) (hr : (Region.ready md ops listed).contains i = true)
    (hQ : ∀ c a w, Q (.panic c) (a.put d undef) w → Q (.panic c) a w) (hw : (ops[i]?).map (fun o => Region.wanted o (yielded ops a.tmps)) = some false) (hS : S w)
    (h : wpAnyH P md ops Q S fuel (listed.setIfInBounds i true) (a.put d undef) w) : wpAnyH P md ops Q S (fuel + 1) listed a w := by
  cases ho : ops[i]? with
  | none => rw [ho] at hd; cases hd
  | some o =>
    rw [ho] at hd hw
    obtain rfl := Option.some.inj hd
    exact wpAnyH_take ho hs hf hr hQ (Or.inr ⟨Option.some.inj hw, rfl⟩) hS h
theorem hk_take {i : Nat} {d : Option Tmp} {v : Value} {fuel : Nat} {listed : Array Bool} {a : Act} {w : World} (hd : (ops[i]?).map (fun o => o.dst) = some d)
    (hs : Region.noSelect ops = true) (hf : Region.free md ops listed i = true) (hr : (Region.ready md ops listed).contains i = true)
    (hQ : ∀ c a w, Q (.panic c) (a.put d v) w → Q (.panic c) a w) (hw : (ops[i]?).map (fun o => Region.wanted o (yielded ops a.tmps)) = some true)
    (hy : ∀ w, S w → match ops[i]? with | some o => (execOp a.eval o).run P w = .ok (.value v) w | none => False) (hS : S w)
    (h : wpAnyH P md ops Q S fuel (listed.setIfInBounds i true) (a.put d v) w) : wpAnyH P md ops Q S (fuel + 1) listed a w := by
  cases ho : ops[i]? with
  | none => rw [ho] at hd; cases hd
  | some o =>
    rw [ho] at hd hw
    simp only [ho] at hy
    obtain rfl := Option.some.inj hd
    exact wpAnyH_take ho hs hf hr hQ (Or.inl ⟨Option.some.inj hw, hy⟩) hS h
theorem hk_call {i : Nat} {fuel : Nat} {listed : Array Bool} {a : Act} {w : World} (hr : Region.ready md ops listed = [i])
    (hw : (ops[i]?).map (fun o => Region.wanted o (yielded ops a.tmps)) = some true)
    (h : ∀ K : Act → World → Prop, Shut (∀ a w, S w → (S w → wpAnyH P md ops Q S fuel (listed.setIfInBounds i true) a w) → K a w) → match ops[i]? with | some o => Oper.wp P o a w K Q | none => False) :
    wpAnyH P md ops Q S (fuel + 1) listed a w := by
  cases ho : ops[i]? with
  | none => rw [ho] at hw; cases hw
  | some o =>
    rw [ho] at hw
    simp only [ho] at h
    refine wpAnyH_ready hr (by simp) (AllReadyH.cons ho (fun K hK => ?_) AllReadyH.nil)
    rw [if_pos (Option.some.inj hw)]
    exact h K hK
theorem hk_two {i k : Nat} {fuel : Nat} {listed : Array Bool} {a : Act} {w : World} (hr : Region.ready md ops listed = [i, k])
    (hw : (ops[i]?).map (fun o => Region.wanted o (yielded ops a.tmps)) = some true) (hw2 : (ops[k]?).map (fun o => Region.wanted o (yielded ops a.tmps)) = some true)
    (h : ∀ K : Act → World → Prop, Shut (∀ a w, S w → (S w → wpAnyH P md ops Q S fuel (listed.setIfInBounds i true) a w) → K a w) → match ops[i]? with | some o => Oper.wp P o a w K Q | none => False)
    (h2 : ∀ K : Act → World → Prop, Shut (∀ a w, S w → (S w → wpAnyH P md ops Q S fuel (listed.setIfInBounds k true) a w) → K a w) → match ops[k]? with | some o => Oper.wp P o a w K Q | none => False) :
    wpAnyH P md ops Q S (fuel + 1) listed a w := by
  cases ho : ops[i]? with
  | none => rw [ho] at hw; cases hw
  | some o =>
    cases ho2 : ops[k]? with
    | none => rw [ho2] at hw2; cases hw2
    | some o2 =>
      rw [ho] at hw
      rw [ho2] at hw2
      simp only [ho] at h
      simp only [ho2] at h2
      refine wpAnyH_ready hr (by simp) (AllReadyH.cons ho (fun K hK => ?_) (AllReadyH.cons ho2 (fun K hK => ?_) AllReadyH.nil))
      · rw [if_pos (Option.some.inj hw)]
        exact h K hK
      · rw [if_pos (Option.some.inj hw2)]
        exact h2 K hK
end
end Go.Proofs.YtbelnaiekbfoiaaGreatDoor
/- Package layer: a setting at a place, of a name. Conditions: the settings lie in memory; their words are few. -/
namespace Go.Proofs.YtbelnaiekbfoiaaGreatDoor.ly
open Go.ChangeShapes Go.WideShapes Go.ChangeAt Go.RowKit gl va ls ky

theorem found_is {ids : List (List UInt8)} {t : List UInt8} {k i : Nat} {b : Bool} (h : FoundAt ids t k b) (ha : ids.Pairwise fun a b => ltL a b = true) (hi : ids[i]? = some t) : k = i ∧ b = true := by
  obtain ⟨h1, h2, h3⟩ := h
  have hil := lt_get hi
  have e1 : ¬ i < k := fun hlt => by have := (h2 i t hi).1 hlt; rw [ltL_irrefl] at this; cases this
  have hk : k = i := by
    rcases Nat.lt_or_ge k i with hlt | hge
    · obtain ⟨y, hy⟩ : ∃ y, ids[k]? = some y := ⟨_, List.getElem?_eq_getElem (by omega)⟩
      have hyt : ltL y t = true := pair_at (S := fun a b => ltL a b = true) ha hy hi hlt
      have := (h2 k y hy).2 hyt
      omega
    · omega
  subst hk
  exact ⟨rfl, by rw [h3, hi]; simp⟩
theorem found_not {ids : List (List UInt8)} {t : List UInt8} {k : Nat} {b : Bool} (h : FoundAt ids t k b) (hi : t ∉ ids) : b = false := by
  obtain ⟨h1, h2, h3⟩ := h
  rw [h3, decide_eq_false_iff_not]
  exact fun e => hi (List.mem_of_getElem? e)
def sgV (t : List UInt8) (x : Hd) (p : Option Addr) : Value := .agg #[.string (B t), .int .i64 x.v.kind, .int .i64 x.v.int, .string x.v.text, .slice p x.v.words.length x.v.words.length, .int .i64 x.src]
theorem ownE (v : Val) (sl : Value) (hm : v.words.length ≤ 4294967295) (w : World) (h : Strs w sl v.words) :
    Calls Tryz.prog 49 #[.agg #[.int .i64 v.kind, .int .i64 v.int, .string v.text, sl]] w fun e w' => ∃ y, e = .returned y ∧ (∃ p, y = .agg #[.int .i64 v.kind, .int .i64 v.int, .string v.text, .slice p v.words.length v.words.length] ∧ NewWd w.heap.size w' (.slice p v.words.length v.words.length) v.words) ∧ Below w.heap.size w w' := by
  refine (own_any v sl hm w h).mono ?_
  rintro e w' ⟨⟨p, rfl, h1⟩, h2⟩
  exact ⟨_, rfl, ⟨p, rfl, h1⟩, h2⟩
theorem egOwn (args : Array Value) (w : World) : (callFunc 49 args).run Tryz.prog w = .ok (.enter 49 args) w := enters Tryz.func49 (by kernel_rfl) (by kernel_rfl) args w
theorem stored6 {T : TypeId} {w : World} {g : Nat} {c0 c1 c2 c3 c4 c5 : Value} (h : w.heap[g]? = some (.cells #[c0, c1, c2, c3, c4, c5] T (0, 0))) (v0 v1 v2 v3 v4 v5 : Value) :
    ((((((w.setCell ⟨g, 0, none⟩ v0).setCell ⟨g, 1, none⟩ v1).setCell ⟨g, 2, none⟩ v2).setCell ⟨g, 3, none⟩ v3).setCell ⟨g, 4, none⟩ v4).setCell ⟨g, 5, none⟩ v5).heap[g]? = some (.cells #[v0, v1, v2, v3, v4, v5] T (0, 0)) :=
  heap_set (o := 5) (heap_set (o := 4) (heap_set (o := 3) (heap_set (o := 2) (heap_set (o := 1) (heap_set (o := 0) h v0) v1) v2) v3) v4) v5
theorem stored6_bel {w w1 : World} {M g : Nat} (h : Below M w w1) (hg : M ≤ g) (v0 v1 v2 v3 v4 v5 : Value) :
    Below M w ((((((w1.setCell ⟨g, 0, none⟩ v0).setCell ⟨g, 1, none⟩ v1).setCell ⟨g, 2, none⟩ v2).setCell ⟨g, 3, none⟩ v3).setCell ⟨g, 4, none⟩ v4).setCell ⟨g, 5, none⟩ v5) :=
  (((((h.setCell (p := ⟨g, 0, none⟩) hg v0).setCell (p := ⟨g, 1, none⟩) hg v1).setCell (p := ⟨g, 2, none⟩) hg v2).setCell (p := ⟨g, 3, none⟩) hg v3).setCell (p := ⟨g, 4, none⟩) hg v4).setCell (p := ⟨g, 5, none⟩) hg v5
set_option maxHeartbeats 4000000 in
set_option maxRecDepth 100000 in
theorem setting_any (M b : Nat) (hs : Value) (D : List Ky) (R : List Hd) (j : Nat) (k : Ky) (x : Hd) (hk : D[j]? = some k) (hx : R[j]? = some x) (hn : D.length ≤ 4294967295) (hm : x.v.words.length ≤ 4294967295) (w : World) (h : LSet M w b hs D R) :
    Calls Tryz.prog 42 #[.pointer (some ⟨b, 0, none⟩), .int .i64 j] w fun e w' => (∃ p, e = .returned (sgV k.name x p) ∧ NewWd w.heap.size w' (.slice p x.v.words.length x.v.words.length) x.v.words) ∧ Below w.heap.size w w' := by
  obtain ⟨p, c, pk, ck, rfl, hblk, hK⟩ := h.form
  have b0 : w.cell? ⟨b, 0, none⟩ = some (.slice pk D.length ck) := cell_in hblk
  have b1 : w.cell? ⟨b, 1, none⟩ = some (.slice p D.length c) := cell_in hblk
  have hlt := h.lt
  have hj := lt_get hk
  have hKr := hK.rw kyC_len
  obtain ⟨gk, ok, rfl, hgk⟩ := hKr.ptr.2.2 (by omega)
  obtain ⟨k0, _, _, _, _, _⟩ := ky_cells hKr hk
  have hH := h.held
  rw [h.len] at hH
  obtain ⟨g, cs, rfl, _, hnc, hgb, _, _⟩ := hH.at_ (by omega)
  obtain ⟨c0, c1, c2, c3, c4⟩ := h.cells hx
  have hg := lt_of_block hgb
  have HO := Lib.hid fun (W : World) (hb : Below w.heap.size w W) => ownE x.v x.sl hm W ((h.later hb).wds x (List.mem_of_getElem? hx)).strs
  have HCs := Lib.hid fun (W : World) (hW : Below w.heap.size w W) => (⟨(hW.cell (p := ⟨b, 0, none⟩) hlt).trans b0, (hW.cell (p := ⟨b, 1, none⟩) hlt).trans b1, (hW.cell (p := ⟨gk, ok + j * 6, none⟩) hgk).trans k0, (hW.cell (p := ⟨g, j * 5, none⟩) hg).trans c0, (hW.cell (p := ⟨g, j * 5 + 1, none⟩) hg).trans c1, (hW.cell (p := ⟨g, j * 5 + 2, none⟩) hg).trans c2, (hW.cell (p := ⟨g, j * 5 + 3, none⟩) hg).trans c3, (hW.cell (p := ⟨g, j * 5 + 4, none⟩) hg).trans c4⟩ :
    W.cell? ⟨b, 0, none⟩ = some (.slice (some ⟨gk, ok, none⟩) D.length ck) ∧ W.cell? ⟨b, 1, none⟩ = some (.slice (some ⟨g, 0, none⟩) D.length c) ∧ W.cell? ⟨gk, ok + j * 6, none⟩ = some (.string (B k.name)) ∧ W.cell? ⟨g, j * 5, none⟩ = some (.int .i64 x.v.kind) ∧ W.cell? ⟨g, j * 5 + 1, none⟩ = some (.int .i64 x.v.int) ∧ W.cell? ⟨g, j * 5 + 2, none⟩ = some (.string x.v.text) ∧ W.cell? ⟨g, j * 5 + 3, none⟩ = some x.sl ∧ W.cell? ⟨g, j * 5 + 4, none⟩ = some (.int .i64 x.src))
  have hji : (j : Int) < (D.length : Int) := by omega
  have hj0 : (0 : Int) ≤ (j : Int) := by omega
  unfold sgV
  clear h hK hKr hH hgb hblk hk hx b0 b1 k0 c0 c1 c2 c3 c4 hnc
  unfold Hd.sl at HCs HO
  obtain ⟨⟨kk, kn, kt, kw⟩, xp, xc, xs⟩ := x
  simp only at *
  generalize D.length = n at *
  generalize B k.name = nm at *
  generalize hwl : kw.length = nw at *
  go_enter Tryz.func42, Tryz.ntmps42
  go_upto_region 1 with fail
  refine go_nm (fun wA hA => ?_)
  have kR : wA.heap[w.heap.size]? = some (.cells #[.string ⟨#[]⟩, .int .i64 0, .int .i64 0, .string ⟨#[]⟩, .slice none 0 0, .int .i64 0] 47 (0, 0)) := by rw [hA]; exact heap_alloc_new w _
  have hbA : Below w.heap.size w wA := by rw [hA]; exact (Below.refl _ _).alloc (Nat.le_refl _) _
  obtain ⟨a0, a1, a2, a3, a4, a5, a6, a7⟩ := HCs.out _ hbA
  have hlA := lt_of_block kR
  have HkR := Lib.hid kR
  have HbA := Lib.hid hbA
  have hgA : g < wA.heap.size := by have := hbA.size; omega
  have hgkA : gk < wA.heap.size := by have := hbA.size; omega
  have hbbA : b < wA.heap.size := by have := hbA.size; omega
  have HbD := Lib.hid hbA.drew
  clear hA kR hbA
  clear a0 a1 a2 a3 a4 a5 a6 a7
  refine wp_region_held_drew (S := (fun W => W.cell? ⟨b, 0, none⟩ = some (.slice (some ⟨gk, ok, none⟩) n ck) ∧ W.cell? ⟨b, 1, none⟩ = some (.slice (some ⟨g, 0, none⟩) n c) ∧ W.cell? ⟨gk, ok + j * 6, none⟩ = some (.string nm) ∧ W.cell? ⟨g, j * 5, none⟩ = some (.int .i64 kk) ∧ W.cell? ⟨g, j * 5 + 1, none⟩ = some (.int .i64 kn) ∧ W.cell? ⟨g, j * 5 + 2, none⟩ = some (.string kt) ∧ W.cell? ⟨g, j * 5 + 3, none⟩ = some (.slice xp nw xc) ∧ W.cell? ⟨g, j * 5 + 4, none⟩ = some (.int .i64 xs))) (by kernel_rfl) (HCs.out _ HbD.out) (fun hH0 => ?_)
  try dsimp only at hH0
  refine hk_take (i := 0) (d := some 5) (v := ?_) (by kernel_rfl) (by kernel_rfl) (by kernel_rfl) (by kernel_rfl) (fun _ _ _ h => h) (by kernel_rfl) ?hy (by assumption) ?_
  case hy => (intro w hSw; (try dsimp only at hSw); simp only [List.getElem?_toArray, List.getElem?_cons_zero]; go_simp; all_goals (with_reducible rfl))
  try simp only [Act.put, List.setIfInBounds_toArray, List.set_cons_zero, List.set_cons_succ]
  refine hk_take (i := 1) (d := some 6) (v := ?_) (by kernel_rfl) (by kernel_rfl) (by kernel_rfl) (by kernel_rfl) (fun _ _ _ h => h) (by kernel_rfl) ?hy (by assumption) ?_
  case hy => (intro w hSw; (try dsimp only at hSw); simp only [List.getElem?_toArray, List.getElem?_cons_succ, List.getElem?_cons_zero]; go_simp; all_goals (with_reducible rfl))
  try simp only [Act.put, List.setIfInBounds_toArray, List.set_cons_zero, List.set_cons_succ]
  refine hk_take (i := 2) (d := some 7) (v := ?_) (by kernel_rfl) (by kernel_rfl) (by kernel_rfl) (by kernel_rfl) (fun _ _ _ h => h) (by kernel_rfl) ?hy (by assumption) ?_
  case hy => (intro w hSw; (try dsimp only at hSw); simp only [List.getElem?_toArray, List.getElem?_cons_succ, List.getElem?_cons_zero]; go_simp; all_goals (with_reducible rfl))
  try simp only [Act.put, List.setIfInBounds_toArray, List.set_cons_zero, List.set_cons_succ]
  refine hk_take (i := 3) (d := some 8) (v := ?_) (by kernel_rfl) (by kernel_rfl) (by kernel_rfl) (by kernel_rfl) (fun _ _ _ h => h) (by kernel_rfl) ?hy (by assumption) ?_
  case hy => (intro w hSw; (try dsimp only at hSw); simp only [List.getElem?_toArray, List.getElem?_cons_succ, List.getElem?_cons_zero]; go_simp; all_goals (with_reducible rfl))
  try simp only [Act.put, List.setIfInBounds_toArray, List.set_cons_zero, List.set_cons_succ]
  refine hk_take (i := 4) (d := some 9) (v := ?_) (by kernel_rfl) (by kernel_rfl) (by kernel_rfl) (by kernel_rfl) (fun _ _ _ h => h) (by kernel_rfl) ?hy (by assumption) ?_
  case hy => (intro w hSw; (try dsimp only at hSw); simp only [List.getElem?_toArray, List.getElem?_cons_succ, List.getElem?_cons_zero]; go_simp; all_goals (with_reducible rfl))
  try simp only [Act.put, List.setIfInBounds_toArray, List.set_cons_zero, List.set_cons_succ]
  refine hk_take (i := 5) (d := some 10) (v := ?_) (by kernel_rfl) (by kernel_rfl) (by kernel_rfl) (by kernel_rfl) (fun _ _ _ h => h) (by kernel_rfl) ?hy (by assumption) ?_
  case hy => (intro w hSw; (try dsimp only at hSw); simp only [List.getElem?_toArray, List.getElem?_cons_succ, List.getElem?_cons_zero]; go_simp; all_goals (with_reducible rfl))
  try simp only [Act.put, List.setIfInBounds_toArray, List.set_cons_zero, List.set_cons_succ]
  refine hk_take (i := 6) (d := some 11) (v := ?_) (by kernel_rfl) (by kernel_rfl) (by kernel_rfl) (by kernel_rfl) (fun _ _ _ h => h) (by kernel_rfl) ?hy (by assumption) ?_
  case hy => (intro w hSw; (try dsimp only at hSw); simp only [List.getElem?_toArray, List.getElem?_cons_succ, List.getElem?_cons_zero]; go_simp; all_goals (with_reducible rfl))
  try simp only [Act.put, List.setIfInBounds_toArray, List.set_cons_zero, List.set_cons_succ]
  refine hk_take (i := 7) (d := some 12) (v := ?_) (by kernel_rfl) (by kernel_rfl) (by kernel_rfl) (by kernel_rfl) (fun _ _ _ h => h) (by kernel_rfl) ?hy (by assumption) ?_
  case hy => (intro w hSw; (try dsimp only at hSw); simp only [List.getElem?_toArray, List.getElem?_cons_succ, List.getElem?_cons_zero]; go_simp; all_goals (with_reducible rfl))
  try simp only [Act.put, List.setIfInBounds_toArray, List.set_cons_zero, List.set_cons_succ]
  refine hk_take (i := 8) (d := some 13) (v := ?_) (by kernel_rfl) (by kernel_rfl) (by kernel_rfl) (by kernel_rfl) (fun _ _ _ h => h) (by kernel_rfl) ?hy (by assumption) ?_
  case hy => (intro w hSw; (try dsimp only at hSw); simp only [List.getElem?_toArray, List.getElem?_cons_succ, List.getElem?_cons_zero]; go_simp; all_goals (with_reducible rfl))
  try simp only [Act.put, List.setIfInBounds_toArray, List.set_cons_zero, List.set_cons_succ]
  refine hk_take (i := 9) (d := some 14) (v := ?_) (by kernel_rfl) (by kernel_rfl) (by kernel_rfl) (by kernel_rfl) (fun _ _ _ h => h) (by kernel_rfl) ?hy (by assumption) ?_
  case hy => (intro w hSw; (try dsimp only at hSw); simp only [List.getElem?_toArray, List.getElem?_cons_succ, List.getElem?_cons_zero]; go_simp; all_goals (with_reducible rfl))
  try simp only [Act.put, List.setIfInBounds_toArray, List.set_cons_zero, List.set_cons_succ]
  refine hk_take (i := 10) (d := some 15) (v := ?_) (by kernel_rfl) (by kernel_rfl) (by kernel_rfl) (by kernel_rfl) (fun _ _ _ h => h) (by kernel_rfl) ?hy (by assumption) ?_
  case hy => (intro w hSw; (try dsimp only at hSw); simp only [List.getElem?_toArray, List.getElem?_cons_succ, List.getElem?_cons_zero]; go_simp; all_goals (with_reducible rfl))
  try simp only [Act.put, List.setIfInBounds_toArray, List.set_cons_zero, List.set_cons_succ]
  refine hk_take (i := 11) (d := some 16) (v := ?_) (by kernel_rfl) (by kernel_rfl) (by kernel_rfl) (by kernel_rfl) (fun _ _ _ h => h) (by kernel_rfl) ?hy (by assumption) ?_
  case hy => (intro w hSw; (try dsimp only at hSw); simp only [List.getElem?_toArray, List.getElem?_cons_succ, List.getElem?_cons_zero]; go_simp; all_goals (with_reducible rfl))
  try simp only [Act.put, List.setIfInBounds_toArray, List.set_cons_zero, List.set_cons_succ]
  refine hk_take (i := 12) (d := some 17) (v := ?_) (by kernel_rfl) (by kernel_rfl) (by kernel_rfl) (by kernel_rfl) (fun _ _ _ h => h) (by kernel_rfl) ?hy (by assumption) ?_
  case hy => (intro w hSw; (try dsimp only at hSw); simp only [List.getElem?_toArray, List.getElem?_cons_succ, List.getElem?_cons_zero]; go_simp; all_goals (with_reducible rfl))
  try simp only [Act.put, List.setIfInBounds_toArray, List.set_cons_zero, List.set_cons_succ]
  refine hk_take (i := 13) (d := some 18) (v := ?_) (by kernel_rfl) (by kernel_rfl) (by kernel_rfl) (by kernel_rfl) (fun _ _ _ h => h) (by kernel_rfl) ?hy (by assumption) ?_
  case hy => (intro w hSw; (try dsimp only at hSw); simp only [List.getElem?_toArray, List.getElem?_cons_succ, List.getElem?_cons_zero]; go_simp; all_goals (with_reducible rfl))
  try simp only [Act.put, List.setIfInBounds_toArray, List.set_cons_zero, List.set_cons_succ]
  refine hk_take (i := 14) (d := some 19) (v := ?_) (by kernel_rfl) (by kernel_rfl) (by kernel_rfl) (by kernel_rfl) (fun _ _ _ h => h) (by kernel_rfl) ?hy (by assumption) ?_
  case hy => (intro w hSw; (try dsimp only at hSw); simp only [List.getElem?_toArray, List.getElem?_cons_succ, List.getElem?_cons_zero]; go_simp; all_goals (with_reducible rfl))
  try simp only [Act.put, List.setIfInBounds_toArray, List.set_cons_zero, List.set_cons_succ]
  refine hk_take (i := 15) (d := some 20) (v := ?_) (by kernel_rfl) (by kernel_rfl) (by kernel_rfl) (by kernel_rfl) (fun _ _ _ h => h) (by kernel_rfl) ?hy (by assumption) ?_
  case hy => (intro w hSw; (try dsimp only at hSw); simp only [List.getElem?_toArray, List.getElem?_cons_succ, List.getElem?_cons_zero]; go_simp; all_goals (with_reducible rfl))
  try simp only [Act.put, List.setIfInBounds_toArray, List.set_cons_zero, List.set_cons_succ]
  refine hk_take (i := 16) (d := some 21) (v := ?_) (by kernel_rfl) (by kernel_rfl) (by kernel_rfl) (by kernel_rfl) (fun _ _ _ h => h) (by kernel_rfl) ?hy (by assumption) ?_
  case hy => (intro w hSw; (try dsimp only at hSw); simp only [List.getElem?_toArray, List.getElem?_cons_succ, List.getElem?_cons_zero]; go_simp; all_goals (with_reducible rfl))
  try simp only [Act.put, List.setIfInBounds_toArray, List.set_cons_zero, List.set_cons_succ]
  refine hk_take (i := 18) (d := some 23) (v := ?_) (by kernel_rfl) (by kernel_rfl) (by kernel_rfl) (by kernel_rfl) (fun _ _ _ h => h) (by kernel_rfl) ?hy (by assumption) ?_
  case hy => (intro w hSw; (try dsimp only at hSw); simp only [List.getElem?_toArray, List.getElem?_cons_succ, List.getElem?_cons_zero]; go_simp; all_goals (with_reducible rfl))
  try simp only [Act.put, List.setIfInBounds_toArray, List.set_cons_zero, List.set_cons_succ]
  refine hk_take (i := 19) (d := some 24) (v := ?_) (by kernel_rfl) (by kernel_rfl) (by kernel_rfl) (by kernel_rfl) (fun _ _ _ h => h) (by kernel_rfl) ?hy (by assumption) ?_
  case hy => (intro w hSw; (try dsimp only at hSw); simp only [List.getElem?_toArray, List.getElem?_cons_succ, List.getElem?_cons_zero]; go_simp; all_goals (with_reducible rfl))
  try simp only [Act.put, List.setIfInBounds_toArray, List.set_cons_zero, List.set_cons_succ]
  refine hk_take (i := 20) (d := some 25) (v := ?_) (by kernel_rfl) (by kernel_rfl) (by kernel_rfl) (by kernel_rfl) (fun _ _ _ h => h) (by kernel_rfl) ?hy (by assumption) ?_
  case hy => (intro w hSw; (try dsimp only at hSw); simp only [List.getElem?_toArray, List.getElem?_cons_succ, List.getElem?_cons_zero]; go_simp; all_goals (with_reducible rfl))
  try simp only [Act.put, List.setIfInBounds_toArray, List.set_cons_zero, List.set_cons_succ]
  refine hk_take (i := 21) (d := some 26) (v := ?_) (by kernel_rfl) (by kernel_rfl) (by kernel_rfl) (by kernel_rfl) (fun _ _ _ h => h) (by kernel_rfl) ?hy (by assumption) ?_
  case hy => (intro w hSw; (try dsimp only at hSw); simp only [List.getElem?_toArray, List.getElem?_cons_succ, List.getElem?_cons_zero]; go_simp; all_goals (with_reducible rfl))
  try simp only [Act.put, List.setIfInBounds_toArray, List.set_cons_zero, List.set_cons_succ]
  refine hk_take (i := 22) (d := some 27) (v := ?_) (by kernel_rfl) (by kernel_rfl) (by kernel_rfl) (by kernel_rfl) (fun _ _ _ h => h) (by kernel_rfl) ?hy (by assumption) ?_
  case hy => (intro w hSw; (try dsimp only at hSw); simp only [List.getElem?_toArray, List.getElem?_cons_succ, List.getElem?_cons_zero]; go_simp; all_goals (with_reducible rfl))
  try simp only [Act.put, List.setIfInBounds_toArray, List.set_cons_zero, List.set_cons_succ]
  refine hk_take (i := 23) (d := some 28) (v := ?_) (by kernel_rfl) (by kernel_rfl) (by kernel_rfl) (by kernel_rfl) (fun _ _ _ h => h) (by kernel_rfl) ?hy (by assumption) ?_
  case hy => (intro w hSw; (try dsimp only at hSw); simp only [List.getElem?_toArray, List.getElem?_cons_succ, List.getElem?_cons_zero]; go_simp; all_goals (with_reducible rfl))
  try simp only [Act.put, List.setIfInBounds_toArray, List.set_cons_zero, List.set_cons_succ]
  refine hk_take (i := 24) (d := some 29) (v := ?_) (by kernel_rfl) (by kernel_rfl) (by kernel_rfl) (by kernel_rfl) (fun _ _ _ h => h) (by kernel_rfl) ?hy (by assumption) ?_
  case hy => (intro w hSw; (try dsimp only at hSw); simp only [List.getElem?_toArray, List.getElem?_cons_succ, List.getElem?_cons_zero]; go_simp; all_goals (with_reducible rfl))
  try simp only [Act.put, List.setIfInBounds_toArray, List.set_cons_zero, List.set_cons_succ]
  refine hk_take (i := 25) (d := some 30) (v := ?_) (by kernel_rfl) (by kernel_rfl) (by kernel_rfl) (by kernel_rfl) (fun _ _ _ h => h) (by kernel_rfl) ?hy (by assumption) ?_
  case hy => (intro w hSw; (try dsimp only at hSw); simp only [List.getElem?_toArray, List.getElem?_cons_succ, List.getElem?_cons_zero]; go_simp; all_goals (with_reducible rfl))
  try simp only [Act.put, List.setIfInBounds_toArray, List.set_cons_zero, List.set_cons_succ]
  refine hk_call (i := 17) (by kernel_rfl) (by kernel_rfl) (fun K hK => ?_)
  simp only [List.getElem?_toArray, List.getElem?_cons_succ, List.getElem?_cons_zero]
  go_simp
  (with_reducible refine Calls.mono (HO.out _ HbD.out) ?_)
  rintro e w1 ⟨y, rfl, ⟨p1, rfl, hn1⟩, hb1⟩
  have HN1 := Lib.hid hn1
  have Hb1 := Lib.hid (HbD.out.trans (hb1.mono HbD.out.size))
  have Hk1 := Lib.hid ((hb1.block _ hlA).trans HkR.out)
  have hA1 : wA.heap.size ≤ w1.heap.size := hb1.size
  clear hb1 hn1 hH0
  go_wp2_with fail
  refine hK.out _ _ (HCs.out _ Hb1.out) (fun hH1 => ?_)
  clear hK K
  try simp only [Act.put, List.setIfInBounds_toArray, List.set_cons_zero, List.set_cons_succ]
  refine hk_take (i := 26) (d := some 31) (v := ?_) (by kernel_rfl) (by kernel_rfl) (by kernel_rfl) (by kernel_rfl) (fun _ _ _ h => h) (by kernel_rfl) ?hy (by assumption) ?_
  case hy => (intro w hSw; (try dsimp only at hSw); simp only [List.getElem?_toArray, List.getElem?_cons_succ, List.getElem?_cons_zero]; go_simp; all_goals (with_reducible rfl))
  try simp only [Act.put, List.setIfInBounds_toArray, List.set_cons_zero, List.set_cons_succ]
  have hl1 := lt_of_block Hk1.out
  have r0 : w1.cell? ⟨w.heap.size, 0, none⟩ = some (.string ⟨#[]⟩) := cell_in Hk1.out
  have r1 : w1.cell? ⟨w.heap.size, 1, none⟩ = some (.int .i64 0) := cell_in Hk1.out
  have r2 : w1.cell? ⟨w.heap.size, 2, none⟩ = some (.int .i64 0) := cell_in Hk1.out
  have r3 : w1.cell? ⟨w.heap.size, 3, none⟩ = some (.string ⟨#[]⟩) := cell_in Hk1.out
  have r4 : w1.cell? ⟨w.heap.size, 4, none⟩ = some (.slice none 0 0) := cell_in Hk1.out
  have r5 : w1.cell? ⟨w.heap.size, 5, none⟩ = some (.int .i64 0) := cell_in Hk1.out
  have fr : ∀ o, w1.frozen? ⟨w.heap.size, o, none⟩ = false := fun o => free_in Hk1.out
  refine hk_call (i := 27) (by kernel_rfl) (by kernel_rfl) (fun K hK => ?_)
  simp only [List.getElem?_toArray, List.getElem?_cons_succ, List.getElem?_cons_zero]
  go_simp
  refine hK.out _ _ (HCs.out _ (stored6_bel Hb1.out (Nat.le_refl _) _ _ _ _ _ _)) (fun _ => ?_)
  clear hK K
  try simp only [Act.put, List.setIfInBounds_toArray, List.set_cons_zero, List.set_cons_succ]
  refine wpAnyH_done (by kernel_rfl) ?_ _
  go_wp2_with fail
  subst hwl
  have HK3 := Lib.hid (stored6 Hk1.out (.string nm) (.int .i64 kk) (.int .i64 kn) (.string kt) (.slice p1 kw.length kw.length) (.int .i64 xs))
  refine bodyPost_ret (results_cell_row rfl _ _ w.heap.size 47 _ _ _ rfl HK3.out Tryz.underlying47 rfl (by kernel_rfl)) rfl ?_
  refine ⟨⟨p1, rfl, rw.NewRw.mono (M := wA.heap.size) ?_ HbA.out.size⟩, stored6_bel Hb1.out (Nat.le_refl _) _ _ _ _ _ _⟩
  repeat (refine new_far ?_ _ (by simp only; omega))
  exact HN1.out
end Go.Proofs.YtbelnaiekbfoiaaGreatDoor.ly
/- Chapter 5's sixteen definitions in plain words: taken in one by one they are what stands. No program in sight; no conditions. -/
namespace Go.Proofs.YtbelnaiekbfoiaaGreatDoor.ky
open gl va ls

noncomputable def dfltL (x : Ky) : Bool := decide ((parse wordL x.kind x.dflt).2 = 0) && within wordL (parse wordL x.kind x.dflt).1 x.least x.most
noncomputable def addE (S : List Ky) (x : Ky) : Int :=
  if formL x = false then 50 else if dfltL x = false then 53 else if (findK S x.name).isSome then 51 else if (lettK S x.letter).isSome then 52 else if S.length = 64 then 54 else 0
noncomputable def addK (S : List Ky) (x : Ky) : List Ky := if addE S x = 0 then insK S x else S
def logK : List Ky := [⟨[108, 111, 103, 46, 102, 105, 108, 101], 5, [36, 123, 115, 116, 111, 114, 101, 46, 100, 105, 114, 125, 47, 108, 111, 103], 0, 0, []⟩, ⟨[108, 111, 103, 46, 107, 101, 101, 112], 4, [55, 100], 1, 2592000, []⟩, ⟨[108, 111, 103, 46, 108, 101, 118, 101, 108], 2, [50], 0, 5, [118]⟩]
def netK : List Ky := [⟨[110, 101, 116, 46, 104, 111, 115, 116], 5, [108, 111, 99, 97, 108, 104, 111, 115, 116], 0, 0, []⟩, ⟨[110, 101, 116, 46, 112, 101, 101, 114, 115], 6, [], 0, 16, []⟩, ⟨[110, 101, 116, 46, 112, 111, 114, 116], 2, [56, 48, 56, 48], 1, 65535, [112]⟩, ⟨[110, 101, 116, 46, 116, 105, 109, 101, 111, 117, 116], 4, [51, 48, 115], 1, 3600, []⟩, ⟨[110, 101, 116, 46, 117, 114, 108], 5, [104, 116, 116, 112, 58, 47, 47, 36, 123, 110, 101, 116, 46, 104, 111, 115, 116, 125, 58, 36, 123, 110, 101, 116, 46, 112, 111, 114, 116, 125], 0, 0, []⟩]
def storeK : List Ky := [⟨[115, 116, 111, 114, 101, 46, 98, 108, 111, 99, 107, 115], 2, [54, 52], 8, 4096, [98]⟩, ⟨[115, 116, 111, 114, 101, 46, 99, 97, 99, 104, 101], 3, [52, 109], 0, 1073741824, [99]⟩, ⟨[115, 116, 111, 114, 101, 46, 100, 105, 114], 5, [47, 118, 97, 114, 47, 116, 105, 110, 100, 101, 114], 0, 0, [100]⟩, ⟨[115, 116, 111, 114, 101, 46, 112, 97, 103, 101], 3, [52, 107], 512, 65536, []⟩]
def bootK : List Ky := [⟨[98, 111, 111, 116, 46, 100, 114, 121], 1, [102, 97, 108, 115, 101], 0, 0, [110]⟩, ⟨[98, 111, 111, 116, 46, 108, 105, 109, 105, 116], 2, [48], 0, 1024, []⟩, ⟨[98, 111, 111, 116, 46, 115, 101, 114, 118, 105, 99, 101, 115], 6, [108, 111, 103, 44, 110, 101, 116], 0, 16, [115]⟩, ⟨[98, 111, 111, 116, 46, 119, 111, 114, 107, 101, 114, 115], 2, [48], 0, 64, [119]⟩]
def stdK : List Ky := bootK ++ (logK ++ (netK ++ storeK))
noncomputable def addAll : List Ky → List Ky → List Ky
  | S, [] => S
  | S, x :: r => addAll (addK S x) r
theorem addAll_append : ∀ (l m S : List Ky), addAll S (l ++ m) = addAll (addAll S l) m
  | [], _, _ => rfl
  | x :: r, m, S => by simp only [List.cons_append, addAll, addAll_append r m]
theorem std_all : addAll [] (logK ++ (netK ++ (storeK ++ bootK))) = stdK := by kernel_rfl
theorem std_ok : ∀ x ∈ stdK, KyOk x := by unfold KyOk; decide +kernel
theorem std_asc : AscK stdK := by unfold AscK; decide +kernel
end Go.Proofs.YtbelnaiekbfoiaaGreatDoor.ky
/- May values be those of definitions: plain. No program in sight; no conditions. -/
namespace Go.Proofs.YtbelnaiekbfoiaaGreatDoor.ly
open gl va ls ky

/-- May a value be that of a definition? -/
noncomputable def mayL (k : Ky) (v : Val) : Bool := decide (v.kind = k.kind) && (right wordL v && within wordL v k.least k.most)
noncomputable def mayAll : List Ky → List Vs → Bool
  | [], [] => true
  | k :: D, x :: R => mayL k x.v && mayAll D R
  | _, _ => false
theorem mayAll_at : ∀ {D : List Ky} {R : List Vs}, mayAll D R = true → R.length = D.length ∧ ∀ (i : Nat) (k : Ky) (x : Vs), D[i]? = some k → R[i]? = some x → mayL k x.v = true
  | [], [], _ => ⟨rfl, fun i k x h => by simp at h⟩
  | [], _ :: _, h => by simp [mayAll] at h
  | _ :: _, [], h => by simp [mayAll] at h
  | k :: D, x :: R, h => by
    unfold mayAll at h
    rw [Bool.and_eq_true] at h
    obtain ⟨h1, h2⟩ := mayAll_at h.2
    refine ⟨by simp [h1], fun i k' x' e1 e2 => ?_⟩
    cases i with
    | zero =>
      obtain rfl := Option.some.inj e1
      obtain rfl := Option.some.inj e2
      exact h.1
    | succ i => exact h2 i k' x' e1 e2
end Go.Proofs.YtbelnaiekbfoiaaGreatDoor.ly
/- Package layer: may a value be that of the setting at a place? Conditions: values no greater than 2147483647 bytes and words. -/
namespace Go.Proofs.YtbelnaiekbfoiaaGreatDoor.ly
open Go.ChangeShapes Go.WideShapes Go.ChangeAt Go.RowKit gl va ls ky

set_option maxHeartbeats 4000000 in
set_option maxRecDepth 100000 in
theorem may_any (p : Option Addr) (c : Nat) (D : List Ky) (i : Nat) (k : Ky) (hk : D[i]? = some k) (hn : D.length ≤ 4294967295) (v : Val) (hb : Vb v) (sl : Value) (w : World) (h : Kys w (.slice p D.length c) D) (hS : Strs w sl v.words) (hV : Vlo w) :
    Calls Tryz.prog 56 #[.agg #[.slice p D.length c], .int .i64 i, rep v sl] w fun e w' => e = .returned (.bool (mayL k v)) ∧ Below w.heap.size w w' := by
  have hj := lt_get hk
  obtain ⟨gk, ok, rfl, hgk⟩ := h.ptr.2.2 (by omega)
  obtain ⟨k0, k1, k2, k3, k4, k5⟩ := ky_cells h hk
  have hji : (i : Int) < (D.length : Int) := by omega
  have hj0 : (0 : Int) ≤ (i : Int) := by omega
  have HR := Lib.hid fun (W : World) (hW : Below w.heap.size w W) => Right_any v hb sl W (hV.below hW (Nat.le_refl _)) (hS.below hW (Nat.le_refl _))
  have HW := Lib.hid fun (W : World) (hW : Below w.heap.size w W) => Within_any v hb k.least k.most sl W (hV.below hW (Nat.le_refl _)) (hS.below hW (Nat.le_refl _))
  unfold mayL
  unfold rep at HR HW ⊢
  clear h hS hV hk
  generalize D.length = n at *
  obtain ⟨vk, vn, vt, vw⟩ := v
  simp only at *
  obtain ⟨mv, Hmv⟩ : ∃ mv, Hid (mv = (decide (vk = k.kind) && (right wordL ⟨vk, vn, vt, vw⟩ && within wordL ⟨vk, vn, vt, vw⟩ k.least k.most))) := ⟨_, Lib.hid rfl⟩
  rw [← Hmv.out]
  go_enter Tryz.func56, Tryz.ntmps56
  go_upto_region 2 with fail
  refine go_nm (fun wA hA => ?_)
  have hbA : Below w.heap.size w wA := by rw [hA]; exact ((((Below.refl _ _).alloc (Nat.le_refl _) _).alloc (by simp) _).alloc (by simp; omega) _)
  have kV : wA.heap[w.heap.size + 1]? = some (.cells #[.int .i64 vk, .int .i64 vn, .string vt, sl] 45 (0, 0)) := by
    rw [hA]
    refine heap_al ?_ _
    have h := heap_alloc_new (w.alloc (.cells #[.slice (some ⟨gk, ok, none⟩) n c] 88)) (.cells #[.int .i64 vk, .int .i64 vn, .string vt, sl] 45)
    rwa [World.size_alloc] at h
  have kK : wA.heap[w.heap.size + 2]? = some (.cells #[.string (B k.name), .int .i64 k.kind, .string (B k.dflt), .int .i64 k.least, .int .i64 k.most, .string (B k.letter)] 79 (0, 0)) := by
    rw [hA]
    have h := heap_alloc_new ((w.alloc (.cells #[.slice (some ⟨gk, ok, none⟩) n c] 88)).alloc (.cells #[.int .i64 vk, .int .i64 vn, .string vt, sl] 45)) (.cells #[.string (B k.name), .int .i64 k.kind, .string (B k.dflt), .int .i64 k.least, .int .i64 k.most, .string (B k.letter)] 79)
    rwa [World.size_alloc, World.size_alloc] at h
  have HbA := Lib.hid hbA
  have HV := Lib.hid fun (W : World) (hW : Below wA.heap.size wA W) => (⟨(hW.block _ (lt_of_block kV)).trans kV, (hW.block _ (lt_of_block kK)).trans kK⟩ : W.heap[w.heap.size + 1]? = some (.cells #[.int .i64 vk, .int .i64 vn, .string vt, sl] 45 (0, 0)) ∧ W.heap[w.heap.size + 2]? = some (.cells #[.string (B k.name), .int .i64 k.kind, .string (B k.dflt), .int .i64 k.least, .int .i64 k.most, .string (B k.letter)] 79 (0, 0)))
  have a0 : wA.cell? ⟨w.heap.size + 1, 0, none⟩ = some (.int .i64 vk) := cell_in kV
  have a1 : wA.cell? ⟨w.heap.size + 1, 1, none⟩ = some (.int .i64 vn) := cell_in kV
  have a2 : wA.cell? ⟨w.heap.size + 1, 2, none⟩ = some (.string vt) := cell_in kV
  have a3 : wA.cell? ⟨w.heap.size + 1, 3, none⟩ = some sl := cell_in kV
  have a4 : wA.cell? ⟨w.heap.size + 2, 1, none⟩ = some (.int .i64 k.kind) := cell_in kK
  have hl1 := lt_of_block kV
  have hl2 := lt_of_block kK
  clear hA hbA kV kK k0 k1 k2 k3 k4 k5 hb
  by_cases hkd : vk = k.kind
  · have q0 : (vk == k.kind) = true := by simp [hkd]
    have Hm1 := Lib.hid (Hmv.out.trans (by rw [decide_eq_true hkd, Bool.true_and]))
    clear hkd Hmv
    generalize k.kind = kk at *
    generalize k.least = kl at *
    generalize k.most = km at *
    go_wp2_with fail
    refine (HR.out wA HbA.out).mono ?_
    rintro e w1 ⟨rfl, hb1⟩
    obtain ⟨kV, kK⟩ := HV.out _ hb1
    have Hb1 := Lib.hid (HbA.out.trans (hb1.mono HbA.out.size))
    have e0 : w1.cell? ⟨w.heap.size + 1, 0, none⟩ = some (.int .i64 vk) := cell_in kV
    have e1 : w1.cell? ⟨w.heap.size + 1, 1, none⟩ = some (.int .i64 vn) := cell_in kV
    have e2 : w1.cell? ⟨w.heap.size + 1, 2, none⟩ = some (.string vt) := cell_in kV
    have e3 : w1.cell? ⟨w.heap.size + 1, 3, none⟩ = some sl := cell_in kV
    have e4 : w1.cell? ⟨w.heap.size + 2, 3, none⟩ = some (.int .i64 kl) := cell_in kK
    have e5 : w1.cell? ⟨w.heap.size + 2, 4, none⟩ = some (.int .i64 km) := cell_in kK
    have hl3 := lt_of_block kV
    have hl4 := lt_of_block kK
    clear hb1 kV kK a0 a1 a2 a3 a4 HV
    cases hr : right wordL ⟨vk, vn, vt, vw⟩ with
    | false =>
      obtain rfl : mv = false := Hm1.out.trans (by rw [hr, Bool.false_and])
      clear hr Hm1
      go_wp2_with fail
      go_ret
      exact ⟨rfl, Hb1.out⟩
    | true =>
      have Hm2 := Lib.hid (Hm1.out.trans (by rw [hr, Bool.true_and]))
      clear hr Hm1
      go_wp2_with fail
      refine (HW.out w1 Hb1.out).mono ?_
      rintro e w2 ⟨rfl, hb2⟩
      have Hb2 := Lib.hid (Hb1.out.trans (hb2.mono Hb1.out.size))
      clear hb2
      generalize within wordL ⟨vk, vn, vt, vw⟩ kl km = r at *
      obtain rfl : mv = r := Hm2.out
      go_wp2_with fail
      go_ret
      exact ⟨rfl, Hb2.out⟩
  · have q0 : (vk == k.kind) = false := by simp [hkd]
    obtain rfl : mv = false := Hmv.out.trans (by rw [decide_eq_false hkd, Bool.false_and])
    clear hkd Hmv
    generalize k.kind = kk at *
    go_wp2_with fail
    go_ret
    exact ⟨rfl, HbA.out⟩
end Go.Proofs.YtbelnaiekbfoiaaGreatDoor.ly
/- Package layer: may, Get, Put. Conditions: the settings lie in memory; values no greater than 2147483647 bytes and words. -/
namespace Go.Proofs.YtbelnaiekbfoiaaGreatDoor.ly
open Go.ChangeShapes Go.WideShapes Go.ChangeAt Go.RowKit gl va ls ky

set_option maxHeartbeats 4000000 in
set_option maxRecDepth 100000 in
theorem Get_any (M b : Nat) (hs : Value) (D : List Ky) (R : List Hd) (j : Nat) (k : Ky) (x : Hd) (hk : D[j]? = some k) (hx : R[j]? = some x) (ha : AscK D) (hn : D.length ≤ 4294967295) (hm : x.v.words.length ≤ 4294967295) (w : World) (h : LSet M w b hs D R) :
    Calls Tryz.prog 30 #[.pointer (some ⟨b, 0, none⟩), .string (B k.name)] w fun e w' => (∃ p, e = .returned (.tuple #[sgV k.name x p, .bool true]) ∧ NewWd w.heap.size w' (.slice p x.v.words.length x.v.words.length) x.v.words) ∧ Below w.heap.size w w' := by
  obtain ⟨p, c, pk, ck, rfl, hblk, hK⟩ := h.form
  have b0 : w.cell? ⟨b, 0, none⟩ = some (.slice pk D.length ck) := cell_in hblk
  have hlt := h.lt
  have HP := Lib.hid fun (W : World) (hW : Below w.heap.size w W) => place_any pk ck D k.name hn ha W ((hK.rw kyC_len).later hW)
  have HSt := Lib.hid fun (W : World) (hW : Below w.heap.size w W) => setting_any M b (.slice p D.length c) D R j k x hk hx hn hm W (h.later hW)
  have hkn : (D.map (·.name))[j]? = some k.name := by rw [List.getElem?_map, hk]; rfl
  have HF := Lib.hid fun (q : Nat) (is : Bool) (hF : FoundAt (D.map (·.name)) k.name q is) => found_is hF (show (D.map (·.name)).Pairwise (fun a b => ltL a b = true) from ha) hkn
  have HC0 := Lib.hid fun (W : World) (hW : Below w.heap.size w W) => (hW.block _ (lt_of_block hblk)).trans hblk
  clear h hK hblk hk hx hkn b0
  unfold sgV at *
  generalize B k.name = nm at *
  generalize D.length = n at *
  obtain ⟨⟨kk, kn, kt, kw⟩, xp, xc, xs⟩ := x
  simp only at *
  generalize hwl : kw.length = nw at *
  go_enter Tryz.func30, Tryz.ntmps30
  go_upto_region 1 with fail
  refine go_nm (fun wA hA => ?_)
  have kR : wA.heap[w.heap.size]? = some (.cells #[.string ⟨#[]⟩, .int .i64 0, .int .i64 0, .string ⟨#[]⟩, .slice none 0 0, .int .i64 0] 47 (0, 0)) := by rw [hA]; exact heap_alloc_new w _
  have hbA : Below w.heap.size w wA := by rw [hA]; exact (Below.refl _ _).alloc (Nat.le_refl _) _
  have b0 : wA.cell? ⟨b, 0, none⟩ = some (.slice pk n ck) := cell_in (HC0.out _ hbA)
  have hlA : b < wA.heap.size := by have := hbA.size; omega
  have HkR := Lib.hid kR
  have HbA := Lib.hid hbA
  clear hA kR hbA
  go_wp2_with fail
  refine (HP.out wA HbA.out).mono ?_
  rintro e w1 ⟨⟨q, is, rfl, hF⟩, hb1⟩
  obtain ⟨rfl, rfl⟩ := HF.out q is hF
  have Hb1 := Lib.hid (HbA.out.trans (hb1.mono HbA.out.size))
  have Hk1 := Lib.hid ((hb1.block _ (lt_of_block HkR.out)).trans HkR.out)
  have h1A : wA.heap.size ≤ w1.heap.size := hb1.size
  have hlR := lt_of_block HkR.out
  clear hF hb1 b0
  go_wp2_with fail
  refine (HSt.out w1 Hb1.out).mono ?_
  rintro e w2 ⟨⟨p1, rfl, hn1⟩, hb2⟩
  have HN1 := Lib.hid hn1
  have Hb2 := Lib.hid (Hb1.out.trans (hb2.mono Hb1.out.size))
  have Hk2 := Lib.hid ((hb2.block _ (lt_of_block Hk1.out)).trans Hk1.out)
  have hl2 := lt_of_block Hk2.out
  have r0 : w2.cell? ⟨w.heap.size, 0, none⟩ = some (.string ⟨#[]⟩) := cell_in Hk2.out
  have r1 : w2.cell? ⟨w.heap.size, 1, none⟩ = some (.int .i64 0) := cell_in Hk2.out
  have r2 : w2.cell? ⟨w.heap.size, 2, none⟩ = some (.int .i64 0) := cell_in Hk2.out
  have r3 : w2.cell? ⟨w.heap.size, 3, none⟩ = some (.string ⟨#[]⟩) := cell_in Hk2.out
  have r4 : w2.cell? ⟨w.heap.size, 4, none⟩ = some (.slice none 0 0) := cell_in Hk2.out
  have r5 : w2.cell? ⟨w.heap.size, 5, none⟩ = some (.int .i64 0) := cell_in Hk2.out
  have fr : ∀ o, w2.frozen? ⟨w.heap.size, o, none⟩ = false := fun o => free_in Hk2.out
  clear hn1 hb2
  go_wp2_with fail
  subst hwl
  have HK3 := Lib.hid (stored6 Hk2.out (.string nm) (.int .i64 kk) (.int .i64 kn) (.string kt) (.slice p1 kw.length kw.length) (.int .i64 xs))
  refine bodyPost_ret (ky.results_cell_row2 rfl _ _ w.heap.size 47 _ _ _ rfl HK3.out Tryz.underlying47 rfl (by kernel_rfl)) rfl ?_
  refine ⟨⟨p1, rfl, rw.NewRw.mono (M := w1.heap.size) ?_ Hb1.out.size⟩, stored6_bel Hb2.out (Nat.le_refl _) _ _ _ _ _ _⟩
  repeat (refine new_far ?_ _ (by simp only; omega))
  exact HN1.out
end Go.Proofs.YtbelnaiekbfoiaaGreatDoor.ly
/- Package layer: Put. Conditions: the settings lie in memory; the value is no greater than 2147483647 bytes and words. -/
namespace Go.Proofs.YtbelnaiekbfoiaaGreatDoor.ly
open Go.ChangeShapes Go.WideShapes Go.ChangeAt Go.RowKit gl va ls ky

/-- What the last region of Put reads. -/
def S9 (b g n c r : Nat) (vk vn : Int) (vt : ByteArray) (sl : Value) : World → Prop := fun W => W.cell? ⟨b, 1, none⟩ = some (.slice (some ⟨g, 0, none⟩) n c) ∧ W.cell? ⟨r, 0, none⟩ = some (.int .i64 vk) ∧ W.cell? ⟨r, 1, none⟩ = some (.int .i64 vn) ∧ W.cell? ⟨r, 2, none⟩ = some (.string vt) ∧ W.cell? ⟨r, 3, none⟩ = some sl
theorem cell_far {w : World} {a : Addr} {g o : Nat} {u v : Value} (h : w.cell? a = some v) (hne : a.block ≠ g) : (w.setCell ⟨g, o, none⟩ u).cell? a = some v :=
  (World.cell?_of_block (heap_setCell_other w ⟨g, o, none⟩ a.block u hne)).trans h
theorem s9_one {b g n c r o : Nat} {vk vn : Int} {vt : ByteArray} {sl u : Value} {W : World} (h : S9 b g n c r vk vn vt sl W) (hb : b ≠ g) (hr : r ≠ g) : S9 b g n c r vk vn vt sl (W.setCell ⟨g, o, none⟩ u) :=
  ⟨cell_far h.1 hb, cell_far h.2.1 hr, cell_far h.2.2.1 hr, cell_far h.2.2.2.1 hr, cell_far h.2.2.2.2 hr⟩
theorem s9_set {b g n c r o0 o1 o2 o3 o4 : Nat} {vk vn : Int} {vt : ByteArray} {sl : Value} {W : World} (h : S9 b g n c r vk vn vt sl W) (hb : b ≠ g) (hr : r ≠ g) (x0 x1 x2 x3 x4 : Value) : S9 b g n c r vk vn vt sl (((((W.setCell ⟨g, o0, none⟩ x0).setCell ⟨g, o1, none⟩ x1).setCell ⟨g, o2, none⟩ x2).setCell ⟨g, o3, none⟩ x3).setCell ⟨g, o4, none⟩ x4) :=
  s9_one (s9_one (s9_one (s9_one (s9_one h hb hr) hb hr) hb hr) hb hr) hb hr
set_option maxHeartbeats 4000000 in
set_option maxRecDepth 100000 in
/-- A value that may be is held. -/
theorem Put_yes (M b : Nat) (hs : Value) (D : List Ky) (R : List Hd) (i : Nat) (k : Ky) (hk : D[i]? = some k) (ha : AscK D) (hn : D.length ≤ 4294967295) (v : Val) (hb : Vb v) (hmay : mayL k v = true) (src : Int) (hs0 : 0 ≤ src) (hs5 : src ≤ 5) (sl : Value) (w : World) (h : LSet M w b hs D R) (hM : M ≤ w.heap.size) (hS : Strs w sl v.words) (hV : Vlo w) :
    Calls Tryz.prog 23 #[.pointer (some ⟨b, 0, none⟩), .string (B k.name), rep v sl, .int .i64 src] w fun e w' => e = .returned (.int .i64 0) ∧ (∃ y : Hd, y.vs = ⟨v, src⟩ ∧ LSet M w' b hs D (R.set i y)) ∧ Upd hs.ownBlock.toList w w' := by
  obtain ⟨p, c, pk, ck, rfl, hblk, hK⟩ := h.form
  have hj := lt_get hk
  have hH := h.held
  rw [h.len] at hH
  obtain ⟨g, cs, rfl, _, hnc, hgb, hcs, _⟩ := hH.at_ (by omega)
  have hKr := hK.rw kyC_len
  have HC := Lib.hid fun (W : World) (hW : Below w.heap.size w W) => (⟨(hW.block _ (lt_of_block hblk)).trans hblk, (hW.block _ (lt_of_block hgb)).trans hgb⟩ : W.heap[b]? = some (.cells #[.slice pk D.length ck, .slice (some ⟨g, 0, none⟩) D.length c] 91 (0, 0)) ∧ W.heap[g]? = some (.cells cs 107 (0, 0)))
  have HP := Lib.hid fun (W : World) (hW : Below w.heap.size w W) => place_any pk ck D k.name hn ha W (hKr.later hW)
  have hkn : (D.map (·.name))[i]? = some k.name := by rw [List.getElem?_map, hk]; rfl
  have HF := Lib.hid fun (q : Nat) (is : Bool) (hF : FoundAt (D.map (·.name)) k.name q is) => found_is hF (show (D.map (·.name)).Pairwise (fun a b => ltL a b = true) from ha) hkn
  have HMy := Lib.hid fun (W : World) (hW : Below w.heap.size w W) => may_any pk ck D i k hk hn v hb sl W (hKr.later hW) (hS.below hW (Nat.le_refl _)) (hV.below hW (Nat.le_refl _))
  have HO := Lib.hid fun (W : World) (hW : Below w.heap.size w W) => ownE v sl (by have := hb.words; omega) W (hS.below hW (Nat.le_refl _))
  rw [hmay] at HMy
  have HL := Lib.hid fun (W : World) (y : Hd) (hW : Below w.heap.size w W) (hy : NewWd w.heap.size W y.sl y.v.words) => h.put (y := y) hj hW hy hM
  have hblt := lt_of_block hblk
  have hglt := lt_of_block hgb
  have hji : (i : Int) < (D.length : Int) := by omega
  have hj0 : (0 : Int) ≤ (i : Int) := by omega
  have hgs : D.length * 5 ≤ cs.size := Nat.le_trans (Nat.mul_le_mul_right 5 hnc) hcs
  have HCb := HC
  have hgb9 : b ≠ g ∧ w.heap.size ≠ g := ⟨fun e => by
    have h1 := hblk
    rw [e, hgb] at h1
    injection h1 with h1
    injection h1 with _ h1 _
    exact absurd h1 (by decide), by omega⟩
  clear h hK hKr hblk hgb hH hcs hS hV hk hkn
  unfold rep at HMy ⊢
  obtain ⟨vk, vn, vt, vw⟩ := v
  simp only at *
  generalize B k.name = nm at *
  generalize D.length = n at *
  go_enter Tryz.func23, Tryz.ntmps23
  go_upto_region 1 with fail
  refine go_nm (fun wA hA => ?_)
  have kV : wA.heap[w.heap.size]? = some (.cells #[.int .i64 vk, .int .i64 vn, .string vt, sl] 45 (0, 0)) := by rw [hA]; exact heap_alloc_new w _
  have hbA : Below w.heap.size w wA := by rw [hA]; exact (Below.refl _ _).alloc (Nat.le_refl _) _
  have b0 : wA.cell? ⟨b, 0, none⟩ = some (.slice pk n ck) := cell_in (HC.out _ hbA).1
  have hlA : b < wA.heap.size := by have := hbA.size; omega
  have HbA := Lib.hid hbA
  have HS4 := Lib.hid fun (W : World) (h1 : Below w.heap.size w W) (h2 : Below wA.heap.size wA W) => (⟨cell_in (HC.out _ h1).1, cell_in ((h2.block _ (lt_of_block kV)).trans kV), cell_in ((h2.block _ (lt_of_block kV)).trans kV), cell_in ((h2.block _ (lt_of_block kV)).trans kV), cell_in ((h2.block _ (lt_of_block kV)).trans kV)⟩ : W.cell? ⟨b, 0, none⟩ = some (.slice pk n ck) ∧ W.cell? ⟨w.heap.size, 0, none⟩ = some (.int .i64 vk) ∧ W.cell? ⟨w.heap.size, 1, none⟩ = some (.int .i64 vn) ∧ W.cell? ⟨w.heap.size, 2, none⟩ = some (.string vt) ∧ W.cell? ⟨w.heap.size, 3, none⟩ = some sl)
  have HS8 := Lib.hid fun (W : World) (h1 : Below w.heap.size w W) (h2 : Below wA.heap.size wA W) => (⟨cell_in (HC.out _ h1).1, cell_in ((h2.block _ (lt_of_block kV)).trans kV), cell_in ((h2.block _ (lt_of_block kV)).trans kV), cell_in ((h2.block _ (lt_of_block kV)).trans kV), cell_in ((h2.block _ (lt_of_block kV)).trans kV)⟩ : W.cell? ⟨b, 1, none⟩ = some (.slice (some ⟨g, 0, none⟩) n c) ∧ W.cell? ⟨w.heap.size, 0, none⟩ = some (.int .i64 vk) ∧ W.cell? ⟨w.heap.size, 1, none⟩ = some (.int .i64 vn) ∧ W.cell? ⟨w.heap.size, 2, none⟩ = some (.string vt) ∧ W.cell? ⟨w.heap.size, 3, none⟩ = some sl)
  have hlV := lt_of_block kV
  clear hA hbA kV
  go_wp2_with fail
  refine (HP.out wA HbA.out).mono ?_
  rintro e w1 ⟨⟨q, is, rfl, hF⟩, hb1⟩
  obtain ⟨rfl, rfl⟩ := HF.out q is hF
  have Hb1 := Lib.hid (HbA.out.trans (hb1.mono HbA.out.size))
  have HX1 := Lib.hid hb1
  have h1A : wA.heap.size ≤ w1.heap.size := hb1.size
  have hbw1 : b < w1.heap.size := by omega
  have hVw1 : w.heap.size < w1.heap.size := by omega
  clear hF hb1 b0
  go_upto_region 4 with fail
  refine wp_region_held_drew (S := (fun W => W.cell? ⟨b, 0, none⟩ = some (.slice pk n ck) ∧ W.cell? ⟨w.heap.size, 0, none⟩ = some (.int .i64 vk) ∧ W.cell? ⟨w.heap.size, 1, none⟩ = some (.int .i64 vn) ∧ W.cell? ⟨w.heap.size, 2, none⟩ = some (.string vt) ∧ W.cell? ⟨w.heap.size, 3, none⟩ = some sl)) (by kernel_rfl) (HS4.out _ Hb1.out.drew HX1.out.drew) (fun hH0 => ?_)
  try dsimp only at hH0
  refine hk_take (i := 0) (d := some 24) (v := ?_) (by kernel_rfl) (by kernel_rfl) (by kernel_rfl) (by kernel_rfl) (fun _ _ _ h => h) (by kernel_rfl) ?hy (by assumption) ?_
  case hy => (intro w hSw; (try dsimp only at hSw); simp only [List.getElem?_toArray, List.getElem?_cons_zero]; go_simp; all_goals (with_reducible rfl))
  try simp only [Act.put, List.setIfInBounds_toArray, List.set_cons_zero, List.set_cons_succ]
  refine hk_take (i := 1) (d := some 25) (v := ?_) (by kernel_rfl) (by kernel_rfl) (by kernel_rfl) (by kernel_rfl) (fun _ _ _ h => h) (by kernel_rfl) ?hy (by assumption) ?_
  case hy => (intro w hSw; (try dsimp only at hSw); simp only [List.getElem?_toArray, List.getElem?_cons_succ, List.getElem?_cons_zero]; go_simp; all_goals (with_reducible rfl))
  try simp only [Act.put, List.setIfInBounds_toArray, List.set_cons_zero, List.set_cons_succ]
  refine hk_take (i := 2) (d := some 26) (v := ?_) (by kernel_rfl) (by kernel_rfl) (by kernel_rfl) (by kernel_rfl) (fun _ _ _ h => h) (by kernel_rfl) ?hy (by assumption) ?_
  case hy => (intro w hSw; (try dsimp only at hSw); simp only [List.getElem?_toArray, List.getElem?_cons_succ, List.getElem?_cons_zero]; go_simp; all_goals (with_reducible rfl))
  try simp only [Act.put, List.setIfInBounds_toArray, List.set_cons_zero, List.set_cons_succ]
  refine hk_take (i := 3) (d := some 27) (v := ?_) (by kernel_rfl) (by kernel_rfl) (by kernel_rfl) (by kernel_rfl) (fun _ _ _ h => h) (by kernel_rfl) ?hy (by assumption) ?_
  case hy => (intro w hSw; (try dsimp only at hSw); simp only [List.getElem?_toArray, List.getElem?_cons_succ, List.getElem?_cons_zero]; go_simp; all_goals (with_reducible rfl))
  try simp only [Act.put, List.setIfInBounds_toArray, List.set_cons_zero, List.set_cons_succ]
  refine hk_take (i := 4) (d := some 28) (v := ?_) (by kernel_rfl) (by kernel_rfl) (by kernel_rfl) (by kernel_rfl) (fun _ _ _ h => h) (by kernel_rfl) ?hy (by assumption) ?_
  case hy => (intro w hSw; (try dsimp only at hSw); simp only [List.getElem?_toArray, List.getElem?_cons_succ, List.getElem?_cons_zero]; go_simp; all_goals (with_reducible rfl))
  try simp only [Act.put, List.setIfInBounds_toArray, List.set_cons_zero, List.set_cons_succ]
  refine hk_take (i := 5) (d := some 29) (v := ?_) (by kernel_rfl) (by kernel_rfl) (by kernel_rfl) (by kernel_rfl) (fun _ _ _ h => h) (by kernel_rfl) ?hy (by assumption) ?_
  case hy => (intro w hSw; (try dsimp only at hSw); simp only [List.getElem?_toArray, List.getElem?_cons_succ, List.getElem?_cons_zero]; go_simp; all_goals (with_reducible rfl))
  try simp only [Act.put, List.setIfInBounds_toArray, List.set_cons_zero, List.set_cons_succ]
  refine hk_call (i := 6) (by kernel_rfl) (by kernel_rfl) (fun K hK => ?_)
  simp only [List.getElem?_toArray, List.getElem?_cons_succ, List.getElem?_cons_zero]
  go_simp
  (with_reducible refine Calls.mono (HMy.out _ Hb1.out.drew) ?_)
  rintro e w2 ⟨rfl, hb2⟩
  have Hb2 := Lib.hid (Hb1.out.drew.trans (hb2.mono Hb1.out.drew.size))
  have HbX2 := Lib.hid (HX1.out.drew.trans (hb2.mono HX1.out.drew.size))
  clear hb2 hH0
  go_wp2_with fail
  refine hK.out _ _ (HS4.out _ Hb2.out HbX2.out) (fun hH1 => ?_)
  clear hK K
  try simp only [Act.put, List.setIfInBounds_toArray, List.set_cons_zero, List.set_cons_succ]
  refine hk_take (i := 7) (d := some 31) (v := ?_) (by kernel_rfl) (by kernel_rfl) (by kernel_rfl) (by kernel_rfl) (fun _ _ _ h => h) (by kernel_rfl) ?hy (by assumption) ?_
  case hy => (intro w hSw; (try dsimp only at hSw); simp only [List.getElem?_toArray, List.getElem?_cons_succ, List.getElem?_cons_zero]; go_simp; all_goals (with_reducible rfl))
  try simp only [Act.put, List.setIfInBounds_toArray, List.set_cons_zero, List.set_cons_succ]
  refine hk_take (i := 8) (d := some 23) (v := ?_) (by kernel_rfl) (by kernel_rfl) (by kernel_rfl) (by kernel_rfl) (fun _ _ _ h => h) (by kernel_rfl) ?hy (by assumption) ?_
  case hy => (intro w hSw; (try dsimp only at hSw); simp only [List.getElem?_toArray, List.getElem?_cons_succ, List.getElem?_cons_zero]; go_simp; all_goals (with_reducible rfl))
  try simp only [Act.put, List.setIfInBounds_toArray, List.set_cons_zero, List.set_cons_succ]
  refine wpAnyH_done (by kernel_rfl) ?_ _
  go_upto_region 8 with fail
  refine wp_region_held_drew (S := S9 b g n c w.heap.size vk vn vt sl) (by kernel_rfl) (HS8.out _ Hb2.out.drew HbX2.out.drew) (fun hH0 => ?_)
  try dsimp only [S9] at hH0
  refine hk_take (i := 0) (d := some 39) (v := ?_) (by kernel_rfl) (by kernel_rfl) (by kernel_rfl) (by kernel_rfl) (fun _ _ _ h => h) (by kernel_rfl) ?hy (by assumption) ?_
  case hy => (intro w hSw; (try dsimp only [S9] at hSw); simp only [List.getElem?_toArray, List.getElem?_cons_zero]; go_simp; all_goals (with_reducible rfl))
  try simp only [Act.put, List.setIfInBounds_toArray, List.set_cons_zero, List.set_cons_succ]
  refine hk_take (i := 1) (d := some 40) (v := ?_) (by kernel_rfl) (by kernel_rfl) (by kernel_rfl) (by kernel_rfl) (fun _ _ _ h => h) (by kernel_rfl) ?hy (by assumption) ?_
  case hy => (intro w hSw; (try dsimp only [S9] at hSw); simp only [List.getElem?_toArray, List.getElem?_cons_succ, List.getElem?_cons_zero]; go_simp; all_goals (with_reducible rfl))
  try simp only [Act.put, List.setIfInBounds_toArray, List.set_cons_zero, List.set_cons_succ]
  refine hk_take (i := 2) (d := some 41) (v := ?_) (by kernel_rfl) (by kernel_rfl) (by kernel_rfl) (by kernel_rfl) (fun _ _ _ h => h) (by kernel_rfl) ?hy (by assumption) ?_
  case hy => (intro w hSw; (try dsimp only [S9] at hSw); simp only [List.getElem?_toArray, List.getElem?_cons_succ, List.getElem?_cons_zero]; go_simp; all_goals (with_reducible rfl))
  try simp only [Act.put, List.setIfInBounds_toArray, List.set_cons_zero, List.set_cons_succ]
  refine hk_take (i := 3) (d := some 42) (v := ?_) (by kernel_rfl) (by kernel_rfl) (by kernel_rfl) (by kernel_rfl) (fun _ _ _ h => h) (by kernel_rfl) ?hy (by assumption) ?_
  case hy => (intro w hSw; (try dsimp only [S9] at hSw); simp only [List.getElem?_toArray, List.getElem?_cons_succ, List.getElem?_cons_zero]; go_simp; all_goals (with_reducible rfl))
  try simp only [Act.put, List.setIfInBounds_toArray, List.set_cons_zero, List.set_cons_succ]
  refine hk_take (i := 4) (d := some 43) (v := ?_) (by kernel_rfl) (by kernel_rfl) (by kernel_rfl) (by kernel_rfl) (fun _ _ _ h => h) (by kernel_rfl) ?hy (by assumption) ?_
  case hy => (intro w hSw; (try dsimp only [S9] at hSw); simp only [List.getElem?_toArray, List.getElem?_cons_succ, List.getElem?_cons_zero]; go_simp; all_goals (with_reducible rfl))
  try simp only [Act.put, List.setIfInBounds_toArray, List.set_cons_zero, List.set_cons_succ]
  refine hk_take (i := 5) (d := some 44) (v := ?_) (by kernel_rfl) (by kernel_rfl) (by kernel_rfl) (by kernel_rfl) (fun _ _ _ h => h) (by kernel_rfl) ?hy (by assumption) ?_
  case hy => (intro w hSw; (try dsimp only [S9] at hSw); simp only [List.getElem?_toArray, List.getElem?_cons_succ, List.getElem?_cons_zero]; go_simp; all_goals (with_reducible rfl))
  try simp only [Act.put, List.setIfInBounds_toArray, List.set_cons_zero, List.set_cons_succ]
  refine hk_take (i := 7) (d := some 46) (v := ?_) (by kernel_rfl) (by kernel_rfl) (by kernel_rfl) (by kernel_rfl) (fun _ _ _ h => h) (by kernel_rfl) ?hy (by assumption) ?_
  case hy => (intro w hSw; (try dsimp only [S9] at hSw); simp only [List.getElem?_toArray, List.getElem?_cons_succ, List.getElem?_cons_zero]; go_simp; all_goals (with_reducible rfl))
  try simp only [Act.put, List.setIfInBounds_toArray, List.set_cons_zero, List.set_cons_succ]
  refine hk_call (i := 6) (by kernel_rfl) (by kernel_rfl) (fun K hK => ?_)
  simp only [List.getElem?_toArray, List.getElem?_cons_succ, List.getElem?_cons_zero]
  go_simp
  (with_reducible refine Calls.mono (HO.out _ Hb2.out.drew) ?_)
  rintro e w3 ⟨y, rfl, ⟨p1, rfl, hn1⟩, hb3⟩
  have HN1 := Lib.hid hn1
  have Hb3 := Lib.hid (Hb2.out.drew.trans (hb3.mono Hb2.out.drew.size))
  have HbX3 := Lib.hid (HbX2.out.drew.trans (hb3.mono HbX2.out.drew.size))
  clear hb3 hn1 hH0
  go_wp2_with fail
  refine hK.out _ _ (HS8.out _ Hb3.out HbX3.out) (fun hH1 => ?_)
  clear hK K
  try simp only [Act.put, List.setIfInBounds_toArray, List.set_cons_zero, List.set_cons_succ]
  refine hk_take (i := 8) (d := some 47) (v := ?_) (by kernel_rfl) (by kernel_rfl) (by kernel_rfl) (by kernel_rfl) (fun _ _ _ h => h) (by kernel_rfl) ?hy (by assumption) ?_
  case hy => (intro w hSw; (try dsimp only [S9] at hSw); simp only [List.getElem?_toArray, List.getElem?_cons_succ, List.getElem?_cons_zero]; go_simp; all_goals (with_reducible rfl))
  try simp only [Act.put, List.setIfInBounds_toArray, List.set_cons_zero, List.set_cons_succ]
  refine hk_take (i := 9) (d := some 48) (v := ?_) (by kernel_rfl) (by kernel_rfl) (by kernel_rfl) (by kernel_rfl) (fun _ _ _ h => h) (by kernel_rfl) ?hy (by assumption) ?_
  case hy => (intro w hSw; (try dsimp only [S9] at hSw); simp only [List.getElem?_toArray, List.getElem?_cons_succ, List.getElem?_cons_zero]; go_simp; all_goals (with_reducible rfl))
  try simp only [Act.put, List.setIfInBounds_toArray, List.set_cons_zero, List.set_cons_succ]
  have hgk := (HCb.out _ Hb3.out).2
  have hl3 := lt_of_block hgk
  have hc5 : ∀ i, i < 5 → ∃ u, w3.cell? ⟨g, q * 5 + i, none⟩ = some u := fun i hi => ⟨cs[q * 5 + i]'(by omega), by rw [cell_in hgk]; exact Array.getElem?_eq_getElem _⟩
  obtain ⟨u0, c0⟩ := hc5 0 (by omega)
  obtain ⟨u1, c1⟩ := hc5 1 (by omega)
  obtain ⟨u2, c2⟩ := hc5 2 (by omega)
  obtain ⟨u3, c3⟩ := hc5 3 (by omega)
  obtain ⟨u4, c4⟩ := hc5 4 (by omega)
  rw [Nat.add_zero] at c0
  have fr : ∀ o, w3.frozen? ⟨g, o, none⟩ = false := fun o => free_in hgk
  obtain ⟨HLx, HUx⟩ := HL.out w3 ⟨⟨vk, vn, vt, vw⟩, p1, vw.length, src⟩ Hb3.out (rw.NewRw.mono HN1.out Hb2.out.size)
  have HLy := Lib.hid HLx
  have HUy := Lib.hid HUx
  have HS9 := Lib.hid (show ∀ x0 x1 x2 x3 x4 : Value, S9 b g n c w.heap.size vk vn vt sl (((((w3.setCell ⟨g, q * 5, none⟩ x0).setCell ⟨g, q * 5 + 1, none⟩ x1).setCell ⟨g, q * 5 + 2, none⟩ x2).setCell ⟨g, q * 5 + 3, none⟩ x3).setCell ⟨g, q * 5 + 4, none⟩ x4) from fun x0 x1 x2 x3 x4 => s9_set (HS8.out _ Hb3.out HbX3.out) hgb9.1 hgb9.2 _ _ _ _ _)
  clear hgk hc5 HLx HUx
  refine hk_call (i := 10) (by kernel_rfl) (by kernel_rfl) (fun K hK => ?_)
  simp only [List.getElem?_toArray, List.getElem?_cons_succ, List.getElem?_cons_zero]
  go_simp
  refine hK.out _ _ (HS9.out _ _ _ _ _) (fun _ => ?_)
  clear hK K
  try simp only [Act.put, List.setIfInBounds_toArray, List.set_cons_zero, List.set_cons_succ]
  refine wpAnyH_done (by kernel_rfl) ?_ _
  go_wp2_with fail
  go_ret
  exact ⟨rfl, ⟨_, rfl, HLy.out⟩, (Upd.of_below Hb3.out [g]).trans HUy.out (fun _ hk => .inl hk)⟩
end Go.Proofs.YtbelnaiekbfoiaaGreatDoor.ly
/- Package layer: All. Conditions: the settings lie in memory; words of at most 4294967295 texts. -/
namespace Go.Proofs.YtbelnaiekbfoiaaGreatDoor.ly
open Go.ChangeShapes Go.WideShapes Go.ChangeAt Go.RowKit gl va ls ky

/-- What is told of settings: their names, what they hold, words in memory of their own. -/
def Told (M : Nat) (w : World) (D : List Ky) (R : List Hd) (L : List Sg) : Prop := ∀ (i : Nat) (s : Sg), L[i]? = some s → ∃ k x, D[i]? = some k ∧ R[i]? = some x ∧ s.name = k.name ∧ s.h.vs = x.vs ∧ NewWd M w s.h.sl s.h.v.words
theorem Told.later {M : Nat} {w w' : World} {D : List Ky} {R : List Hd} {L : List Sg} (h : Told M w D R L) (hb : Below w.heap.size w w') : Told M w' D R L := fun i s hs => by
  obtain ⟨k, x, h1, h2, h3, h4, h5⟩ := h i s hs
  exact ⟨k, x, h1, h2, h3, h4, h5.later hb⟩
theorem Told.keep {M : Nat} {w w' : World} {D : List Ky} {R : List Hd} {L : List Sg} (h : Told M w D R L) (hk : SK 9 w w') : Told M w' D R L := fun i s hs => by
  obtain ⟨k, x, h1, h2, h3, h4, h5⟩ := h i s hs
  exact ⟨k, x, h1, h2, h3, h4, h5.keep hk⟩
theorem Told.snoc {M : Nat} {w : World} {D : List Ky} {R : List Hd} {L : List Sg} (h : Told M w D R L) {k : Ky} {x : Hd} {s : Sg} (hk : D[L.length]? = some k) (hx : R[L.length]? = some x) (h3 : s.name = k.name) (h4 : s.h.vs = x.vs) (h5 : NewWd M w s.h.sl s.h.v.words) : Told M w D R (L ++ [s]) := fun i y hy => by
  rcases Nat.lt_or_ge i L.length with hlt | hge
  · rw [List.getElem?_append_left hlt] at hy
    exact h i y hy
  · have hi := lt_get hy
    simp only [List.length_append, List.length_cons, List.length_nil] at hi
    obtain rfl : i = L.length := by omega
    rw [List.getElem?_append_right (Nat.le_refl _), Nat.sub_self] at hy
    obtain rfl := Option.some.inj hy
    exact ⟨k, x, hk, hx, h3, h4, h5⟩
theorem infoSg : (Tryz.prog.info? 47).map (fun i => (i.zero, i.size, i.bytes)) = some (some (.agg #[.string .empty, .int .i64 0, .int .i64 0, .string .empty, .slice none 0 0, .int .i64 0]), 6, 80) := by kernel_rfl
theorem sgV_cells (t : List UInt8) (x : Hd) (p : Option Addr) : sgC ⟨t, ⟨x.v, p, x.v.words.length, x.src⟩⟩ = [.string (B t), .int .i64 x.v.kind, .int .i64 x.v.int, .string x.v.text, .slice p x.v.words.length x.v.words.length, .int .i64 x.src] := rfl
set_option maxHeartbeats 4000000 in
set_option maxRecDepth 100000 in
theorem All_any (M b : Nat) (hs : Value) (D : List Ky) (R : List Hd) (hn : D.length ≤ 1000000) (hm : ∀ x ∈ R, x.v.words.length ≤ 4294967295) (w : World) (h : LSet M w b hs D R) :
    Calls Tryz.prog 15 #[.pointer (some ⟨b, 0, none⟩)] w fun e w' => (∃ p c L, e = .returned (.slice p D.length c) ∧ rw.NewRw sgC 6 47 w.heap.size w' (.slice p D.length c) L ∧ L.length = D.length ∧ Told w.heap.size w' D R L) ∧ Below w.heap.size w w' := by
  obtain ⟨i0, si, sz0, sz1, sz2⟩ := info_parts infoSg
  obtain ⟨p, c, pk, ck, rfl, hblk, hK⟩ := h.form
  have HC0 := Lib.hid fun (W : World) (hW : Below w.heap.size w W) => (hW.block _ (lt_of_block hblk)).trans hblk
  have hlen := h.len
  have HSt := Lib.hid fun (W : World) (hW : Below w.heap.size w W) (j : Nat) (k : Ky) (x : Hd) (hk : D[j]? = some k) (hx : R[j]? = some x) => setting_any M b (.slice p D.length c) D R j k x hk hx (by omega) (hm x (List.mem_of_getElem? hx)) W (h.later hW)
  have hb := h.lt
  have b0 : w.cell? ⟨b, 0, none⟩ = some (.slice pk D.length ck) := cell_in hblk
  obtain ⟨n, hDn⟩ : ∃ n, n = D.length := ⟨_, rfl⟩
  obtain ⟨wM, hmk, hownM, hgrM⟩ := run_make_own (P := Tryz.prog) (w := w) w.heap.size 39 47 i0 _ 6 Tryz.underlying39 si sz0 sz1 .i64 .i64 n (by rw [sz2]; omega) (by unfold maxLen; omega) (Nat.le_refl _)
  have hbM : Below w.heap.size w wM := below_none hgrM
  have bM : wM.cell? ⟨b, 0, none⟩ = some (.slice pk n ck) := by rw [hDn]; exact (hbM.cell (p := ⟨b, 0, none⟩) hb).trans b0
  rw [← hDn] at b0 HC0 hn hlen ⊢
  have HDn := Lib.hid hDn
  have Hlen := Lib.hid hlen
  have HownM := Lib.hid hownM
  have HbM := Lib.hid hbM
  have hbM2 : b < wM.heap.size := by have := hbM.size; omega
  clear h hblk hK hDn hlen hm hownM hgrM hbM
  go_enter Tryz.func15, Tryz.ntmps15
  go_wp2_with fail
  go_loopw [3, 18] (fun vo vi wr => ∃ (j co : Nat) (po : Option Addr) (L : List Sg), j ≤ n ∧ vi = .int .i64 j ∧ vo = .slice po j co ∧ Hid (L.length = j) ∧ Hid (wr.ownsRow w.heap.size 47 6 (.slice po j co) j (rw.flat sgC L)) ∧ Hid (Told w.heap.size wr D R L) ∧ Hid (Below w.heap.size w wr)) (fun _ vi _ => n - (intOf vi).toNat)
  case atStart => exact ⟨0, n, some ⟨w.heap.size, 0, none⟩, [], by omega, rfl, rfl, Lib.hid rfl, HownM, Lib.hid (fun i s hs => by simp at hs), HbM⟩
  case round =>
    obtain ⟨wo, rfl⟩ : ∃ wo, wo = wr := ⟨_, rfl⟩
    obtain ⟨j, co, po, L, hj, rfl, rfl, HL, HO, HT, Hb⟩ := hrel
    have hzo : w.heap.size ≤ wo.heap.size := Hb.out.size
    by_cases hlt : j < n
    · have q1 : decide ((j : Int) < (n : Int)) = true := by rw [decide_eq_true_iff]; omega
      have q2 : decide (j < n) = true := by rw [decide_eq_true_iff]; omega
      obtain ⟨k, hk⟩ : ∃ k, D[j]? = some k := ⟨_, List.getElem?_eq_getElem (by rw [← HDn.out]; exact hlt)⟩
      obtain ⟨x, hx⟩ : ∃ x, R[j]? = some x := ⟨_, List.getElem?_eq_getElem (by rw [Hlen.out]; exact hlt)⟩
      have HSx := Lib.hid (HSt.out wo Hb.out j k x hk hx)
      have Hk := Lib.hid hk
      have Hx := Lib.hid hx
      clear hk hx
      unfold sgV at HSx
      go_wp2_with fail
      refine HSx.out.mono ?_
      rintro e w2 ⟨⟨p1, rfl, hn1⟩, hb2⟩
      have HN1 := Lib.hid hn1
      have HO2 := Lib.hid (ls.own_kept HO.out hb2)
      have HT2 := Lib.hid (HT.out.later hb2)
      have Hb2 := Lib.hid (Hb.out.trans (hb2.mono hzo))
      have hz2 : w.heap.size ≤ w2.heap.size := Hb2.out.size
      clear hn1 hb2 HSx HO HT
      have hbL : Below w2.heap.size w2 (w2.alloc (.cells #[.string (B k.name), .int .i64 x.v.kind, .int .i64 x.v.int, .string x.v.text, .slice p1 x.v.words.length x.v.words.length, .int .i64 x.src] 47)) := (Below.refl _ _).alloc (Nat.le_refl _) _
      have HO3 := Lib.hid (ls.own_kept HO2.out hbL)
      have HT3 := Lib.hid (HT2.out.later hbL)
      have HN3 := Lib.hid (rw.NewRw.later HN1.out hbL)
      have Hb3 := Lib.hid (Hb2.out.trans (hbL.mono hz2))
      have Hsrc : Hid (SrcV (w2.alloc (.cells #[.string (B k.name), .int .i64 x.v.kind, .int .i64 x.v.int, .string x.v.text, .slice p1 x.v.words.length x.v.words.length, .int .i64 x.src] 47)) (.slice (some ⟨w2.heap.size, 0, none⟩) 1 1) 1 (sgC ⟨k.name, ⟨x.v, p1, x.v.words.length, x.src⟩⟩)) := Lib.hid (.inr ⟨by decide, _, _, rfl, fun i u hi => by
        rw [addN, cell_in (heap_alloc_new w2 (.cells #[.string (B k.name), .int .i64 x.v.kind, .int .i64 x.v.int, .string x.v.text, .slice p1 x.v.words.length x.v.words.length, .int .i64 x.src] 47)), Nat.zero_add, List.getElem?_toArray]
        exact hi⟩)
      have hz3 : w.heap.size ≤ (w2.alloc (.cells #[.string (B k.name), .int .i64 x.v.kind, .int .i64 x.v.int, .string x.v.text, .slice p1 x.v.words.length x.v.words.length, .int .i64 x.src] 47)).heap.size := Hb3.out.size
      have Ho1 := Lib.hid (sgC_one ⟨k.name, ⟨x.v, p1, x.v.words.length, x.src⟩⟩)
      clear hbL HO2 HT2 HN1 Hb2
      focus
        go_wp2_with (at_builtin; go_must (refine wpList_append_any rfl _ _ 39 rfl 47 i0 _ 6 80 Tryz.underlying39 si sz0 sz1 sz2 rfl (by decide) w.heap.size _ j _ (by rfl) HO3.out _ 1 _ (by rfl) Hsrc.out (by rfl) Ho1.out (by omega) (by omega) hz3 ?_))
      intro p5 c5 w5 hown5 hgrow5
      have Hb5 := Lib.hid (below_grown_own Hb3.out HO3.out hgrow5 hz3)
      have HO5 : Hid (w5.ownsRow w.heap.size 47 6 (.slice p5 (j + 1) c5) (j + 1) (rw.flat sgC (L ++ [⟨k.name, ⟨x.v, p1, x.v.words.length, x.src⟩⟩]))) := Lib.hid (by rw [rw.flat_snoc]; exact hown5)
      have hSK : SK 9 (w2.alloc (.cells #[.string (B k.name), .int .i64 x.v.kind, .int .i64 x.v.int, .string x.v.text, .slice p1 x.v.words.length x.v.words.length, .int .i64 x.src] 47)) w5 := SK.own (by decide) HO3.out hgrow5
      have HT5 : Hid (Told w.heap.size w5 D R (L ++ [⟨k.name, ⟨x.v, p1, x.v.words.length, x.src⟩⟩])) := Lib.hid ((HT3.out.keep hSK).snoc (k := k) (x := x) (by rw [HL.out]; exact Hk.out) (by rw [HL.out]; exact Hx.out) rfl rfl ((HN3.out.mono hzo).keep hSK))
      have HL5 : Hid ((L ++ [(⟨k.name, ⟨x.v, p1, x.v.words.length, x.src⟩⟩ : Sg)]).length = j + 1) := Lib.hid (by simp [HL.out])
      clear hown5 hgrow5 hSK
      go_wp2_with fail
      go_roundw
      case rel => exact ⟨j + 1, c5, p5, _, by omega, by go_num, rfl, HL5, HO5, HT5, Hb5⟩
      case measure => simp [intOf]; omega
    · obtain rfl : j = n := by omega
      have q1 : decide ((j : Int) < (j : Int)) = false := by rw [decide_eq_false_iff_not]; omega
      have q2 : decide (j < j) = false := by rw [decide_eq_false_iff_not]; omega
      have HN := Lib.hid (rw.own_new sgC_len (by decide) HO.out)
      go_wp2_with fail
      go_ret
      exact ⟨⟨po, co, L, rfl, HN.out, HL.out, HT.out⟩, Hb.out⟩
end Go.Proofs.YtbelnaiekbfoiaaGreatDoor.ly
/- Package key: what a definition must be; where a name stands. Conditions: texts of at most 2147483647 bytes; the listed variables hold what the program's text lays. -/
namespace Go.Proofs.YtbelnaiekbfoiaaGreatDoor.ky
open Go.ChangeShapes Go.WideShapes Go.ChangeAt Go.RowKit gl va ls

set_option maxHeartbeats 1000000 in
theorem bounds_any (k : Int) (w : World) : Calls Tryz.prog 132 #[.int .i64 k] w fun e w' => e = .returned (.tuple #[.int .i64 (bndL k).1, .int .i64 (bndL k).2.1, .bool (bndL k).2.2]) ∧ w' = w := by
  by_cases h2 : k = 2
  · subst h2
    go_enter Tryz.func132, Tryz.ntmps132
    go_wp2_with fail
    go_ret3
    exact ⟨rfl, rfl⟩
  by_cases h3 : k = 3
  · subst h3
    go_enter Tryz.func132, Tryz.ntmps132
    go_wp2_with fail
    go_ret3
    exact ⟨rfl, rfl⟩
  by_cases h4 : k = 4
  · subst h4
    go_enter Tryz.func132, Tryz.ntmps132
    go_wp2_with fail
    go_ret3
    exact ⟨rfl, rfl⟩
  by_cases h6 : k = 6
  · subst h6
    go_enter Tryz.func132, Tryz.ntmps132
    go_wp2_with fail
    go_ret3
    exact ⟨rfl, rfl⟩
  have hb : bndL k = (0, 0, false) := by unfold bndL; rw [if_neg h2, if_neg h3, if_neg h4, if_neg h6]
  rw [hb]
  have q2 : (k == 2) = false := by simpa using h2
  have q3 : (k == 3) = false := by simpa using h3
  have q4 : (k == 4) = false := by simpa using h4
  have q6 : (k == 6) = false := by simpa using h6
  go_enter Tryz.func132, Tryz.ntmps132
  go_wp2_with fail
  go_ret3
  exact ⟨rfl, rfl⟩
theorem lit_eq (l : List UInt8) (m : List UInt8) : ((B l).toList == (⟨m.toArray⟩ : ByteArray).toList) = decide (l = m) := str_eq l m
set_option maxHeartbeats 2000000 in
set_option maxRecDepth 100000 in
theorem isLetter_any (l : List UInt8) (hs : l.length ≤ 2147483647) (w : World) : Calls Tryz.prog 131 #[.string (B l)] w fun e w' => e = .returned (.bool (letterL l)) ∧ w' = w := by
  match l with
  | [] =>
    go_enter Tryz.func131, Tryz.ntmps131
    go_wp2_with fail
    go_ret
    exact ⟨rfl, rfl⟩
  | [b] =>
    obtain ⟨s, hs'⟩ : ∃ s, s = B [b] := ⟨_, rfl⟩
    have hz : s.size = 1 := by rw [hs']; rfl
    have h0 : (s.toList == (⟨#[]⟩ : ByteArray).toList) = false := by rw [hs', show (⟨#[]⟩ : ByteArray) = ⟨([] : List UInt8).toArray⟩ from rfl, lit_eq]; simp
    have h1 : (s.toList == (⟨#[104]⟩ : ByteArray).toList) = decide (b = 104) := by rw [hs', show (⟨#[104]⟩ : ByteArray) = ⟨([104] : List UInt8).toArray⟩ from rfl, lit_eq]; simp
    have h2 : (s.toList != (⟨#[104]⟩ : ByteArray).toList) = !decide (b = 104) := by rw [bne, h1]
    have hb : ∀ h : 0 < s.size, ((s[0]'h).toNat : Int) = (b.toNat : Int) := fun h => by subst hs'; rfl
    rw [← hs']
    have hb0 : (0 : Int) ≤ (b.toNat : Int) := by omega
    have hb1 : (b.toNat : Int) ≤ 255 := by have := b.toNat_lt; omega
    have h104 : decide (b.toNat ≠ 104) = !decide (b = 104) := by
      by_cases h : b = 104
      · subst h; rfl
      · have hn : b.toNat ≠ 104 := fun e => h (UInt8.toNat_inj.1 (by rw [e]; rfl))
        simp [h, hn]
    have Hr : Hid (letterL [b] = (decide (97 ≤ b.toNat) && decide (b.toNat ≤ 122) && !decide (b = 104))) := Lib.hid (by
      show (decide (97 ≤ b.toNat) && decide (b.toNat ≤ 122) && decide (b.toNat ≠ 104)) = _
      rw [h104])
    have hi0 : (0 : Nat) < s.size := by omega
    have hbq := hb hi0
    have hemp : s.toList.isEmpty = false := by rw [hs', ByteArray.toList_eq]; rfl
    have h1b : (s.toList == [104]) = decide (b = 104) := by rw [← h1, show (⟨#[104]⟩ : ByteArray).toList = [104] by rw [ByteArray.toList_eq]]
    clear hs' h104 hs
    obtain ⟨c3, hc3⟩ : ∃ c3, decide (b = 104) = c3 := ⟨_, rfl⟩
    rw [hc3] at h1 h2 h1b Hr
    clear hc3 hb
    by_cases g1 : 97 ≤ b.toNat
    · have p1 : decide ((97 : Int) ≤ (b.toNat : Int)) = true := by simp; omega
      have p1' : (97 : Int) ≤ (b.toNat : Int) := by omega
      by_cases g2 : b.toNat ≤ 122
      · have p2 : decide ((b.toNat : Int) ≤ 122) = true := by simp; omega
        have p2' : (b.toNat : Int) ≤ 122 := by omega
        have e : letterL [b] = !c3 := by rw [Hr.out]; simp [g1, g2]
        rw [e]
        clear Hr e
        cases c3
        all_goals
          go_enter Tryz.func131, Tryz.ntmps131
          go_wp2_with fail
          go_ret
          exact ⟨rfl, rfl⟩
      · have p2 : decide ((b.toNat : Int) ≤ 122) = false := by simp; omega
        have p2' : ¬ (b.toNat : Int) ≤ 122 := by omega
        have e : letterL [b] = false := by rw [Hr.out]; simp [g2]
        rw [e]
        clear Hr e
        go_enter Tryz.func131, Tryz.ntmps131
        go_wp2_with fail
        go_ret
        exact ⟨rfl, rfl⟩
    · have p1 : decide ((97 : Int) ≤ (b.toNat : Int)) = false := by simp; omega
      have p1' : ¬ (97 : Int) ≤ (b.toNat : Int) := by omega
      have e : letterL [b] = false := by rw [Hr.out]; simp [g1]
      rw [e]
      clear Hr e
      go_enter Tryz.func131, Tryz.ntmps131
      go_wp2_with fail
      go_ret
      exact ⟨rfl, rfl⟩
  | a :: b :: r =>
    obtain ⟨s, hs'⟩ : ∃ s, s = B (a :: b :: r) := ⟨_, rfl⟩
    have hz : s.size = r.length + 2 := by rw [hs']; simp [ByteArray.size]
    have h0 : (s.toList == (⟨#[]⟩ : ByteArray).toList) = false := by rw [hs', show (⟨#[]⟩ : ByteArray) = ⟨([] : List UInt8).toArray⟩ from rfl, lit_eq]; simp
    have h1 : ((s.size : Int) == 1) = false := by rw [hz]; simp; omega
    have hemp : s.toList.isEmpty = false := by rw [hs', ByteArray.toList_eq]; rfl
    rw [← hs', show letterL (a :: b :: r) = false from rfl]
    clear hs' hz hs
    go_enter Tryz.func131, Tryz.ntmps131
    go_wp2_with fail
    go_ret
    exact ⟨rfl, rfl⟩
theorem form_bad {x : Ky} (h : nameL x.name = false ∨ letterL x.letter = false) : formL x = false := by
  unfold formL
  rcases h with h | h <;> simp [h]
theorem form_num {x : Ky} (h1 : nameL x.name = true) (h2 : letterL x.letter = true) (h3 : (bndL x.kind).2.2 = true) : formL x = (decide ((bndL x.kind).1 ≤ x.least) && (decide (x.least ≤ x.most) && decide (x.most ≤ (bndL x.kind).2.1))) := by
  unfold formL
  rw [h1, h2, if_pos h3, Bool.true_and, Bool.true_and, Bool.and_assoc]
theorem form_not {x : Ky} (h1 : nameL x.name = true) (h2 : letterL x.letter = true) (h3 : (bndL x.kind).2.2 = false) : formL x = (((x.kind == 1) || (x.kind == 5)) && ((x.least == 0) && (x.most == 0))) := by
  unfold formL
  rw [h1, h2, if_neg (by rw [h3]; simp), Bool.true_and, Bool.true_and, Bool.and_assoc]
  have e : ∀ a b : Int, decide (a = b) = (a == b) := fun a b => by rw [Bool.eq_iff_iff, decide_eq_true_iff, beq_iff_eq]
  rw [e, e, Bool.decide_or, e, e]
set_option maxHeartbeats 4000000 in
set_option maxRecDepth 100000 in
theorem formed_any (x : Ky) (hx : KyOk x) (w : World) (hG : Glo w) :
    Calls Tryz.prog 83 #[.agg #[.string (B x.name), .int .i64 x.kind, .string (B x.dflt), .int .i64 x.least, .int .i64 x.most, .string (B x.letter)]] w fun e w' => e = .returned (.bool (formL x)) ∧ Below w.heap.size w w' := by
  obtain ⟨wA, hA⟩ : ∃ wA, wA = w.alloc (.cells #[.string (B x.name), .int .i64 x.kind, .string (B x.dflt), .int .i64 x.least, .int .i64 x.most, .string (B x.letter)] 79) := ⟨_, rfl⟩
  have kA : wA.heap[w.heap.size]? = some (.cells #[.string (B x.name), .int .i64 x.kind, .string (B x.dflt), .int .i64 x.least, .int .i64 x.most, .string (B x.letter)] 79 (0, 0)) := by rw [hA]; exact heap_alloc_new w _
  have hbA : Below w.heap.size w wA := by rw [hA]; exact (Below.refl _ _).alloc (Nat.le_refl _) _
  have HN := Lib.hid (IsName_any (B x.name) (by rw [show (B x.name).size = x.name.length by simp [ByteArray.size]]; exact hx.1) wA (hG.below hbA (Nat.le_refl _)))
  rw [B_list] at HN
  have HL := Lib.hid fun W => isLetter_any x.letter hx.2.2.1 W
  have HBd := Lib.hid fun W => bounds_any x.kind W
  have F1 := Lib.hid (@form_bad x)
  have F2 := Lib.hid (@form_num x)
  have F3 := Lib.hid (@form_not x)
  have HkA := Lib.hid kA
  have HbA := Lib.hid hbA
  have HA := Lib.hid hA
  clear kA hbA hA hG hx
  generalize formL x = fx at *
  generalize nameL x.name = nn at *
  generalize letterL x.letter = ll at *
  generalize bndL x.kind = bd at *
  obtain ⟨lo, hi, bb⟩ := bd
  dsimp only at HBd F2 F3
  generalize B x.name = nm at *
  generalize B x.dflt = df at *
  generalize B x.letter = lt at *
  generalize x.kind = kk at *
  generalize x.least = le at *
  generalize x.most = mo at *
  go_enter Tryz.func83, Tryz.ntmps83
  go_wp2_with fail
  rw [← HA.out]
  refine HN.out.mono ?_
  rintro e w1 ⟨rfl, hb1⟩
  have Hb1 := Lib.hid (then_bel HbA.out hb1)
  have hk1 := (hb1.block _ (lt_of_block HkA.out)).trans HkA.out
  have a1 : w1.cell? ⟨w.heap.size, 1, none⟩ = some (.int .i64 kk) := cell_in hk1
  have a3 : w1.cell? ⟨w.heap.size, 3, none⟩ = some (.int .i64 le) := cell_in hk1
  have a4 : w1.cell? ⟨w.heap.size, 4, none⟩ = some (.int .i64 mo) := cell_in hk1
  have a5 : w1.cell? ⟨w.heap.size, 5, none⟩ = some (.string lt) := cell_in hk1
  have hgw1 : w.heap.size < w1.heap.size := lt_of_block hk1
  clear hb1 hk1
  cases nn with
  | false =>
    have hf := Lib.hid (F1.out (.inl rfl))
    go_wp2_with fail
    go_ret
    exact ⟨by rw [hf.out]; rfl, Hb1.out⟩
  | true =>
    go_wp2_with fail
    refine (HL.out _).mono ?_
    rintro e w0 ⟨rfl, hw0⟩
    obtain rfl : w1 = w0 := hw0.symm
    cases ll with
    | false =>
      have hf := Lib.hid (F1.out (.inr rfl))
      go_wp2_with fail
      go_ret
      exact ⟨by rw [hf.out]; rfl, Hb1.out⟩
    | true =>
      go_wp2_with fail
      refine (HBd.out _).mono ?_
      rintro e w0 ⟨rfl, hw0⟩
      obtain rfl : w1 = w0 := hw0.symm
      cases bb with
      | true =>
        have hf := Lib.hid (F2.out (by simp) (by simp) (by simp))
        obtain ⟨t1, ht1⟩ : ∃ t1, decide (lo ≤ le) = t1 := ⟨_, rfl⟩
        obtain ⟨t2, ht2⟩ : ∃ t2, decide (le ≤ mo) = t2 := ⟨_, rfl⟩
        obtain ⟨t3, ht3⟩ : ∃ t3, decide (mo ≤ hi) = t3 := ⟨_, rfl⟩
        rw [ht1, ht2, ht3] at hf
        cases t1 <;> cases t2 <;> cases t3
        all_goals
          go_wp2_with fail
          go_ret
          exact ⟨by rw [hf.out]; rfl, Hb1.out⟩
      | false =>
        have hf := Lib.hid (F3.out (by simp) (by simp) (by simp))
        obtain ⟨t1, ht1⟩ : ∃ t1, (kk == 1) = t1 := ⟨_, rfl⟩
        obtain ⟨t2, ht2⟩ : ∃ t2, (kk == 5) = t2 := ⟨_, rfl⟩
        obtain ⟨t3, ht3⟩ : ∃ t3, (le == 0) = t3 := ⟨_, rfl⟩
        obtain ⟨t4, ht4⟩ : ∃ t4, (mo == 0) = t4 := ⟨_, rfl⟩
        rw [ht1, ht2, ht3, ht4] at hf
        cases t1 <;> cases t2 <;> cases t3 <;> cases t4
        all_goals
          go_wp2_with fail
          go_ret
          exact ⟨by rw [hf.out]; rfl, Hb1.out⟩
end Go.Proofs.YtbelnaiekbfoiaaGreatDoor.ky
/- value.names, and Print at numbers with units, return plain functions. Conditions: the listed variables hold what the program's text lays; the value's words lie in memory; it is no greater than 2147483647 bytes and words. -/
namespace Go.Proofs.YtbelnaiekbfoiaaGreatDoor.va
open Go.ChangeShapes Go.WideShapes Go.ChangeAt Go.RowKit gl

abbrev nm (k : Int) (i : Nat) : ByteArray := B (uname k i)
theorem names_3 (w : World) : Calls Tryz.prog 102 #[.int .i64 3] w fun e w' => e = .returned (.agg #[.string (nm 3 0), .string (nm 3 1), .string (nm 3 2), .string (nm 3 3)]) ∧ Below w.heap.size w w' := by
  go_enter Tryz.func102, Tryz.ntmps102
  go_wp2
  go_returns
  exact ⟨rfl, by go_grown⟩
theorem names_4 (w : World) : Calls Tryz.prog 102 #[.int .i64 4] w fun e w' => e = .returned (.agg #[.string (nm 4 0), .string (nm 4 1), .string (nm 4 2), .string (nm 4 3)]) ∧ Below w.heap.size w w' := by
  go_enter Tryz.func102, Tryz.ntmps102
  go_wp2
  go_returns
  exact ⟨rfl, by go_grown⟩
theorem names_u (k : Int) (hk : k = 3 ∨ k = 4) (w : World) : Calls Tryz.prog 102 #[.int .i64 k] w fun e w' => e = .returned (.agg #[.string (nm k 0), .string (nm k 1), .string (nm k 2), .string (nm k 3)]) ∧ Below w.heap.size w w' := by
  rcases hk with rfl | rfl
  · exact names_3 w
  · exact names_4 w
theorem ix0 (a b c d : Value) (w : World) : (Instr.index 172 (.agg #[a, b, c, d]) (.int .i64 0)).run Tryz.prog w = (Instr.index 172 (.agg #[a, b, c, d]) (.int .i64 0)).run Tryz.prog w := rfl
theorem ixs (a b c d : ByteArray) (w : World) : (Instr.index 172 (.agg #[.string a, .string b, .string c, .string d]) (.int .i64 0)).run Tryz.prog w = .ok (.string a) w ∧ (Instr.index 172 (.agg #[.string a, .string b, .string c, .string d]) (.int .i64 1)).run Tryz.prog w = .ok (.string b) w ∧
    (Instr.index 172 (.agg #[.string a, .string b, .string c, .string d]) (.int .i64 2)).run Tryz.prog w = .ok (.string c) w ∧ (Instr.index 172 (.agg #[.string a, .string b, .string c, .string d]) (.int .i64 3)).run Tryz.prog w = .ok (.string d) w :=
  ⟨by kernel_rfl, by kernel_rfl, by kernel_rfl, by kernel_rfl⟩

/-- The greatest of the first units of which a number is a multiple. -/
def bt (k n : Int) : Nat → Nat
  | 0 => 0
  | i + 1 => if n ≠ 0 ∧ n % unit k (uname k i) = 0 then i else bt k n i
theorem bt_le (k n : Int) (i : Nat) : bt k n i ≤ i := by
  induction i with
  | zero => exact Nat.le_refl _
  | succ i ih => unfold bt; split <;> omega
theorem bt_best (k n : Int) : bt k n 4 = best k n := by
  unfold best
  by_cases h : n = 0
  · simp [bt, h]
  · rw [if_neg h]
    simp only [bt, h, ne_eq, not_false_eq_true, true_and]
    repeat' split
    all_goals rfl
theorem decDigits_len (u : Nat) : (Lib.decDigits u).length ≤ u + 1 := by
  induction u using Nat.strongRecOn with
  | _ u ih =>
    by_cases h : u < 10
    · rw [decDigits_lt h]; simp
    · rw [decDigits_ge h]
      have := ih (u / 10) (by omega)
      simp
      omega
theorem uname_len (k : Int) (i : Nat) : (uname k i).length ≤ 1 := by
  unfold uname
  repeat' split
  all_goals simp
theorem formatBool_eq (b : Bool) : (⟨(Lib.formatBool b).toArray⟩ : ByteArray) = B (if b then [116, 114, 117, 101] else [102, 97, 108, 115, 101]) := by cases b <;> decide +kernel

/-- What the loop over the units' names keeps. -/
def S16 (w0 : World) (b : Nat) (k n : Int) (w' : World) : Prop := w'.cell? ⟨b, 0, none⟩ = some (.int .i64 k) ∧ w'.cell? ⟨b, 1, none⟩ = some (.int .i64 n) ∧ Hid (Below w0.heap.size w0 w')
theorem s16_drew {w0 wp : World} {b : Nat} {k n : Int} (h : wp.cell? ⟨b, 0, none⟩ = some (.int .i64 k) ∧ wp.cell? ⟨b, 1, none⟩ = some (.int .i64 n) ∧ Hid (Below w0.heap.size w0 wp)) :
    wp.drew.cell? ⟨b, 0, none⟩ = some (.int .i64 k) ∧ wp.drew.cell? ⟨b, 1, none⟩ = some (.int .i64 n) ∧ Hid (Below w0.heap.size w0 wp.drew) := ⟨h.1, h.2.1, Lib.hid h.2.2.out.drew⟩
theorem s16_call {w0 wp w' : World} {b : Nat} {k n : Int} (h : wp.cell? ⟨b, 0, none⟩ = some (.int .i64 k) ∧ wp.cell? ⟨b, 1, none⟩ = some (.int .i64 n) ∧ Hid (Below w0.heap.size w0 wp)) (hb : Below wp.heap.size wp w') :
    w'.cell? ⟨b, 0, none⟩ = some (.int .i64 k) ∧ w'.cell? ⟨b, 1, none⟩ = some (.int .i64 n) ∧ Hid (Below w0.heap.size w0 w') :=
  have hlt := World.block_lt_of_cell? _ _ h.1
  ⟨(hb.cell (p := ⟨b, 0, none⟩) hlt).trans h.1, (hb.cell (p := ⟨b, 1, none⟩) hlt).trans h.2.1, Lib.hid (h.2.2.out.trans (hb.mono h.2.2.out.size))⟩
theorem s16_vlo {w0 wp : World} {b : Nat} {k n : Int} (hV : Vlo w0) (h : wp.cell? ⟨b, 0, none⟩ = some (.int .i64 k) ∧ wp.cell? ⟨b, 1, none⟩ = some (.int .i64 n) ∧ Hid (Below w0.heap.size w0 wp)) : Vlo wp := hV.below h.2.2.out (Nat.le_refl _)

theorem Itoa_any (n : Int) (h0 : -9223372036854775808 ≤ n) (h1 : n ≤ 9223372036854775807) (w : World) (hV : Vlo w) :
    Calls Tryz.prog 100 #[.int .i64 n] w fun e w' => e = .returned (.string (B (Lib.itoa n))) ∧ Below w.heap.size w w' :=
  (Tryz.strconv_Itoa n h0 h1 w hV.pow).mono fun _ _ ⟨he, k, os, hw⟩ => ⟨he, hw ▸ Lib.below_grow _ w (Nat.le_refl _) k os⟩

set_option maxHeartbeats 2000000 in
set_option maxRecDepth 100000 in
theorem printU_any (k n : Int) (hk : k = 3 ∨ k = 4) (hn0 : 0 ≤ n) (hn1 : n ≤ 1125899906842624) (t : ByteArray) (p : Option Addr) (m c : Nat) (w : World) (hV : Vlo w)
    (hR : ∀ W, Below w.heap.size w W → Calls Tryz.prog 98 #[.agg #[.int .i64 k, .int .i64 n, .string t, .slice p m c]] W fun e w' => e = .returned (.bool true) ∧ Below W.heap.size W w') :
    Calls Tryz.prog 47 #[.agg #[.int .i64 k, .int .i64 n, .string t, .slice p m c]] w fun e w' => e = .returned (.tuple #[.string (B (Lib.itoa (n / unit k (uname k (best k n))) ++ uname k (best k n))), .int .i64 0]) ∧ Below w.heap.size w w' := by
  obtain ⟨X, hX⟩ : ∃ X, B (Lib.itoa (n / unit k (uname k (best k n))) ++ uname k (best k n)) = X := ⟨_, rfl⟩
  rw [hX]
  have HXX := Lib.hid hX
  clear hX
  have HV := Lib.hid hV
  have HR := Lib.hid hR
  have Hk := Lib.hid hk
  have hq1 : (k == 1) = false := by simp; omega
  have hq2 : (k == 2) = false := by simp; omega
  have hq5 : (k == 5) = false := by simp; omega
  have hq6 : (k == 6) = false := by simp; omega
  have HX := Lib.hid (fun w => ixs (nm k 0) (nm k 1) (nm k 2) (nm k 3) w)
  clear hV hR hk
  have hx0 := fun w => (HX.out w).1
  go_enter Tryz.func47, Tryz.ntmps47
  go_wp2_with fail
  refine (HR.out _ ((Below.refl _ w).alloc (Nat.le_refl _) _)).mono ?_
  rintro e w1 ⟨rfl, hb⟩
  obtain ⟨⟨b0, b1, b2, b3⟩, _⟩ := res_cells hb
  have Hb1 := Lib.hid (((Below.refl _ w).alloc (Nat.le_refl _) _).trans (hb.mono (by simp)))
  have hlt1 : w.heap.size < w1.heap.size := World.block_lt_of_cell? _ _ b0
  clear hb
  go_wp2_with fail
  refine (names_u k Hk.out w1).mono ?_
  rintro e w2 ⟨rfl, hb⟩
  have c0 := (hb.cell (p := ⟨w.heap.size, 0, none⟩) hlt1).trans b0
  have c1 := (hb.cell (p := ⟨w.heap.size, 1, none⟩) hlt1).trans b1
  have Hb2 := Lib.hid (Hb1.out.trans (hb.mono Hb1.out.size))
  have hlt2 : w.heap.size < w2.heap.size := World.block_lt_of_cell? _ _ c0
  clear hb b0 b1 b2 b3
  go_wp2_with fail
  refine (names_u k Hk.out w2).mono ?_
  rintro e w3 ⟨rfl, hb⟩
  have d0 := (hb.cell (p := ⟨w.heap.size, 0, none⟩) hlt2).trans c0
  have d1 := (hb.cell (p := ⟨w.heap.size, 1, none⟩) hlt2).trans c1
  have Hb3 := Lib.hid (Hb2.out.trans (hb.mono Hb2.out.size))
  have HV3 := Lib.hid (HV.out.below Hb3.out (Nat.le_refl _))
  have Hd := Lib.hid (And.intro d0 d1)
  have hlt3 : w.heap.size < w3.heap.size := World.block_lt_of_cell? _ _ d0
  clear hb c0 c1 hx0 d0 d1
  go_wp2_with fail
  go_loopw [4, 39] (fun nme i wr => ∃ j : Nat, j ≤ 4 ∧ i = .int .i64 j ∧ nme = .string (nm k (bt k n j)) ∧ wr.cell? ⟨w.heap.size, 0, none⟩ = some (.int .i64 k) ∧ wr.cell? ⟨w.heap.size, 1, none⟩ = some (.int .i64 n) ∧ Below w3.heap.size w3 wr) (fun _ i _ => 4 - (intOf i).toNat)
  case atStart => exact ⟨0, by omega, rfl, rfl, Hd.out.1, Hd.out.2, Below.refl _ _⟩
  case round =>
    obtain ⟨j, hj, rfl, rfl, r0, r1, hb⟩ := hrel
    have Hb := Lib.hid hb
    have hltr := World.block_lt_of_cell? _ _ r0
    clear hb
    by_cases hlt : j < 4
    · have HB : Hid (∀ i, bt k n (i + 1) = if n ≠ 0 ∧ n % unit k (uname k i) = 0 then i else bt k n i) := Lib.hid fun _ => rfl
      have hu := unit_uname k j Hk.out (by omega)
      have hub := (unit_nonneg k (uname k j)).2
      have hix : ∀ wx : World, (Instr.index 172 (.agg #[.string (nm k 0), .string (nm k 1), .string (nm k 2), .string (nm k 3)]) (.int .i64 (j : Int))).run Tryz.prog wx = .ok (.string (nm k j)) wx := by
        intro wx
        rcases (show j = 0 ∨ j = 1 ∨ j = 2 ∨ j = 3 by omega) with rfl | rfl | rfl | rfl
        · exact (HX.out wx).1
        · exact (HX.out wx).2.1
        · exact (HX.out wx).2.2.1
        · exact (HX.out wx).2.2.2
      have HU : Hid (∀ W, Vlo W → Calls Tryz.prog 103 #[.int .i64 k, .string (nm k j)] W fun e w' => e = .returned (.int .i64 (unit k (uname k j))) ∧ Below W.heap.size W w') := Lib.hid fun W hW => (Unit_any k (nm k j) W hW.units).mono fun e w' ⟨he, hb⟩ => ⟨by rw [he], hb⟩
      have HBj := Lib.hid (HB.out j)
      clear HB
      generalize bt k n j = cur at *
      generalize nm k 0 = s0 at *
      generalize nm k 1 = s1 at *
      generalize nm k 2 = s2 at *
      generalize nm k 3 = s3 at *
      generalize hnj : nm k j = sj at *
      generalize unit k (uname k j) = u at *
      by_cases hz : n = 0
      · have Hz := Lib.hid hz
        subst hz
        go_wp2_with fail
        go_quiet (fail)
        go_wp2_with fail
        go_roundw
        case rel => exact ⟨j + 1, by omega, by go_num, by rw [HBj.out, if_neg (by simp)], r0, r1, bel_drewN Hb.out _⟩
        case measure => simp [intOf]; omega
      · have hz' : (n != 0) = true := by simp [hz]
        have hu0 : ¬ u = 0 := by omega
        have htm : n.tmod u = n % u := Int.tmod_eq_emod_of_nonneg hn0
        have hr0 := Int.emod_nonneg n hu0
        have hru := Int.emod_lt_of_pos n (show 0 < u by omega)
        have Hif : Hid (∀ r, n % u = r → bt k n (j + 1) = if r = 0 then j else cur) := Lib.hid (by
          rintro r rfl
          rw [HBj.out]
          by_cases h : n % u = 0
          · rw [if_pos ⟨hz, h⟩, if_pos h]
          · rw [if_neg (fun e => h e.2), if_neg h])
        generalize hrr : n % u = r at *
        have Hif2 := Lib.hid (Hif.out r rfl)
        clear Hif HBj hrr
        by_cases hr : r = 0
        · have Hn : Hid (bt k n (j + 1) = j) := Lib.hid (by rw [Hif2.out, if_pos hr])
          have hr' : (r == 0) = true := by simp [hr]
          clear hr
          go_wp2_with fail
          have hSt : wr.cell? ⟨w.heap.size, 0, none⟩ = some (.int .i64 k) ∧ wr.cell? ⟨w.heap.size, 1, none⟩ = some (.int .i64 n) ∧ Hid (Below w3.heap.size w3 wr) := ⟨r0, r1, Hb⟩
          go_region_held3 (fun w' => w'.cell? ⟨w.heap.size, 0, none⟩ = some (.int .i64 k) ∧ w'.cell? ⟨w.heap.size, 1, none⟩ = some (.int .i64 n) ∧ Hid (Below w3.heap.size w3 w'))
            (first | assumption | exact s16_drew (by assumption))
            (first | (go_at_call 103; refine (HU.out _ (s16_vlo HV3.out (by assumption))).mono ?_; rintro e w' ⟨rfl, hb⟩; have hS' := s16_call (by assumption) hb; clear hb))
          all_goals
            rename_i hH
            obtain ⟨e0, e1, hbH⟩ := hH
            clear r0 r1 hSt
            go_wp2_with fail
            go_roundw
            case rel => exact ⟨j + 1, by omega, by go_num, by rw [Hn.out, hnj], e0, e1, hbH.out⟩
            case measure => simp [intOf]; omega
        · have Hn : Hid (bt k n (j + 1) = cur) := Lib.hid (by rw [Hif2.out, if_neg hr])
          have hr' : (r == 0) = false := by simp [hr]
          clear hr
          go_wp2_with fail
          have hSt : wr.cell? ⟨w.heap.size, 0, none⟩ = some (.int .i64 k) ∧ wr.cell? ⟨w.heap.size, 1, none⟩ = some (.int .i64 n) ∧ Hid (Below w3.heap.size w3 wr) := ⟨r0, r1, Hb⟩
          go_region_held3 (fun w' => w'.cell? ⟨w.heap.size, 0, none⟩ = some (.int .i64 k) ∧ w'.cell? ⟨w.heap.size, 1, none⟩ = some (.int .i64 n) ∧ Hid (Below w3.heap.size w3 w'))
            (first | assumption | exact s16_drew (by assumption))
            (first | (go_at_call 103; refine (HU.out _ (s16_vlo HV3.out (by assumption))).mono ?_; rintro e w' ⟨rfl, hb⟩; have hS' := s16_call (by assumption) hb; clear hb))
          all_goals
            rename_i hH
            obtain ⟨e0, e1, hbH⟩ := hH
            clear r0 r1 hSt
            go_wp2_with fail
            go_roundw
            case rel => exact ⟨j + 1, by omega, by go_num, by rw [Hn.out], e0, e1, hbH.out⟩
            case measure => simp [intOf]; omega
    · obtain rfl : j = 4 := by omega
      have hbest := bt_best k n
      rw [hbest]
      have hu := unit_uname k (best k n) Hk.out (best_le k n)
      have hub := (unit_nonneg k (uname k (best k n))).2
      have hnl := uname_len k (best k n)
      have HU : Hid (∀ W, Vlo W → Calls Tryz.prog 103 #[.int .i64 k, .string (nm k (best k n))] W fun e w' => e = .returned (.int .i64 (unit k (uname k (best k n)))) ∧ Below W.heap.size W w') := Lib.hid fun W hW => (Unit_any k (nm k (best k n)) W hW.units).mono fun e w' ⟨he, hb⟩ => ⟨by rw [he], hb⟩
      have HO : Hid (B (Lib.itoa (n / unit k (uname k (best k n)))) ++ nm k (best k n) = X) := Lib.hid ((show _ = B (Lib.itoa (n / unit k (uname k (best k n))) ++ uname k (best k n)) from ba_eq (by simp)).trans HXX.out)
      clear HXX
      have hnsz : (nm k (best k n)).size ≤ 1 := by show (uname k (best k n)).toArray.size ≤ 1; simpa using hnl
      generalize unit k (uname k (best k n)) = u at *
      generalize hname : nm k (best k n) = nmv at *
      have hu0 : ¬ u = 0 := by omega
      have htd : n.tdiv u = n / u := tdiv_ediv hn0
      have hq0 : 0 ≤ n / u := Int.ediv_nonneg hn0 (by omega)
      have hqn : n / u ≤ n := by
        have h1 := Int.mul_le_mul_of_nonneg_left (show (1 : Int) ≤ u by omega) hq0
        have h2 := Int.ediv_mul_le n (b := u) hu0
        omega
      generalize n / u = q at *
      have hwq : IntKind.i64.wrap q = q := by rw [IntKind.wrap_i64]; omega
      have HI := Lib.hid (fun (W : World) (hW : Vlo W) => Itoa_any q (by omega) (by omega) W hW)
      have hIs : (B (Lib.itoa q)).size ≤ 2251799813685248 := by
        have := decDigits_len q.toNat
        rw [itoa_pos (by omega)]
        show (Lib.decDigits q.toNat).toArray.size ≤ _
        simp
        omega
      generalize B (Lib.itoa q) = I at *
      have hadd : ∀ wx : World, (Op.stringOp .add I nmv).run Tryz.prog wx = .ok (.string (I ++ nmv)) wx := fun wx => run_string_add_sum wx I nmv (by omega)
      rw [show ((4 : Nat) : Int) = 4 from rfl]
      go_wp2_with fail
      have hSt : wr.cell? ⟨w.heap.size, 0, none⟩ = some (.int .i64 k) ∧ wr.cell? ⟨w.heap.size, 1, none⟩ = some (.int .i64 n) ∧ Hid (Below w3.heap.size w3 wr) := ⟨r0, r1, Hb⟩
      go_region_held3 (fun w' => w'.cell? ⟨w.heap.size, 0, none⟩ = some (.int .i64 k) ∧ w'.cell? ⟨w.heap.size, 1, none⟩ = some (.int .i64 n) ∧ Hid (Below w3.heap.size w3 w'))
        (first | assumption | exact s16_drew (by assumption))
        (first
          | (go_at_call 103; refine (HU.out _ (s16_vlo HV3.out (by assumption))).mono ?_; rintro e w' ⟨rfl, hb⟩; have hS' := s16_call (by assumption) hb; clear hb)
          | (go_at_call 100; refine (HI.out _ (s16_vlo HV3.out (by assumption))).mono ?_; rintro e w' ⟨rfl, hb⟩; have hS' := s16_call (by assumption) hb; clear hb))
      all_goals
        rename_i hH
        obtain ⟨e0, e1, hbH⟩ := hH
        go_wp2_with fail
        go_ret2
        exact ⟨by rw [← HO.out]; rfl, Hb3.out.trans (hbH.out.mono Hb3.out.size)⟩

end Go.Proofs.YtbelnaiekbfoiaaGreatDoor.va
/- value.Print returns the plain function. Conditions: the listed variables hold what the program's text lays; the value's words lie in memory; it is no greater than 2147483647 bytes and words. -/
namespace Go.Proofs.YtbelnaiekbfoiaaGreatDoor.va
open Go.ChangeShapes Go.WideShapes Go.ChangeAt Go.RowKit gl

/-- What Print gives. -/
def PrintOut (isW : List UInt8 → Bool) (v : Val) (e : Ending) : Prop := e = .returned (.tuple #[.string (B (print isW v).1), .int .i64 (print isW v).2])
theorem print_t {v : Val} (h : right wordL v = true) : print wordL v = (prints v, 0) := by unfold print; rw [h]; rfl
theorem print_f {v : Val} (h : right wordL v = false) : print wordL v = ([], 1) := by unfold print; rw [h]; rfl

set_option maxHeartbeats 1000000 in
set_option maxRecDepth 100000 in
theorem Print_any (v : Val) (hb : Vb v) (sl : Value) (w : World) (hV : Vlo w) (hS : Strs w sl v.words) :
    Calls Tryz.prog 47 #[rep v sl] w fun e w' => PrintOut wordL v e ∧ Below w.heap.size w w' := by
  have HRi := Lib.hid fun (W : World) (hbW : Below w.heap.size w W) => Right_any v hb sl W (hV.below hbW (Nat.le_refl _)) (hS.below hbW (Nat.le_refl _))
  have HVb := Lib.hid fun (W : World) (hbW : Below w.heap.size w W) => hV.below hbW (Nat.le_refl _)
  have HJ := Lib.hid fun (W : World) (hbW : Below w.heap.size w W) => joinW_any sl v.words W (hS.below hbW (Nat.le_refl _)) hb.words hb.joined
  have hV' := Lib.hid hV
  clear hb hV
  obtain ⟨p, c, rfl, hc, _⟩ := hS
  unfold PrintOut
  cases hr : right wordL v with
  | false =>
    rw [print_f hr]
    rw [hr] at HRi
    clear hr
    obtain ⟨k, n, t, ws⟩ := v
    unfold rep at *
    simp only at *
    go_enter Tryz.func47, Tryz.ntmps47
    go_wp2_with fail
    refine (HRi.out _ ((Below.refl _ w).alloc (Nat.le_refl _) _)).mono ?_
    rintro e w1 ⟨rfl, hb⟩
    go_wp2_with fail
    go_ret2
    exact ⟨rfl, ((Below.refl _ w).alloc (Nat.le_refl _) _).trans (hb.mono (by simp))⟩
  | true =>
    have hcs := right_cases hr
    rw [print_t hr]
    rw [hr] at HRi
    clear hr
    obtain ⟨k, n, t, ws⟩ := v
    unfold rep at *
    simp only at *
    obtain ⟨m, hm⟩ : ∃ m, ws.length = m := ⟨_, rfl⟩
    rw [hm] at HRi HJ hc ⊢
    rcases hcs with ⟨hk, h1, h2, h3, h4⟩ | ⟨hk, h1, h2, h3, h4⟩ | ⟨hk, h1, h2, h3, h4⟩ | ⟨hk, h1, h2, h3, h4⟩ | ⟨hk, h1, h2, h3, h4, h5⟩
    · subst hk
      obtain ⟨X, hX⟩ : ∃ X, B (prints ⟨1, n, t, ws⟩) = X := ⟨_, rfl⟩
      rw [hX]
      have HF : Hid (∀ W, Calls Tryz.prog 99 #[.bool (n == 1)] W fun e w' => e = .returned (.string X) ∧ w' = W) := Lib.hid fun W => (Tryz.strconv_FormatBool (n == 1) W).mono fun e w' ⟨he, hw⟩ => ⟨by
        rw [he, formatBool_eq, ← hX]
        show Ending.returned (.string (B (if (n == 1) = true then _ else _))) = .returned (.string (B (if n = 1 then _ else _)))
        congr 3
        simp, hw⟩
      clear hX HJ hm h1 h2 h3 h4
      go_enter Tryz.func47, Tryz.ntmps47
      go_wp2_with fail
      refine (HRi.out _ ((Below.refl _ w).alloc (Nat.le_refl _) _)).mono ?_
      rintro e w1 ⟨rfl, hb⟩
      obtain ⟨⟨b0, b1, b2, b3⟩, _⟩ := res_cells hb
      have Hb := Lib.hid (((Below.refl _ w).alloc (Nat.le_refl _) _).trans (hb.mono (by simp)))
      clear hb
      go_wp2_with fail
      refine (HF.out _).mono ?_
      rintro e w2 ⟨rfl, rfl⟩
      go_wp2_with fail
      go_ret2
      exact ⟨rfl, Hb.out⟩
    · subst hk
      have HF : Hid (∀ W, Below w.heap.size w W → Calls Tryz.prog 100 #[.int .i64 n] W fun e w' => e = .returned (.string (B (prints ⟨2, n, t, ws⟩))) ∧ Below W.heap.size W w') := Lib.hid fun W hW => Itoa_any n (by omega) (by omega) W (HVb.out W hW)
      generalize B (prints ⟨2, n, t, ws⟩) = X at *
      clear HJ hm h3 h4
      go_enter Tryz.func47, Tryz.ntmps47
      go_wp2_with fail
      refine (HRi.out _ ((Below.refl _ w).alloc (Nat.le_refl _) _)).mono ?_
      rintro e w1 ⟨rfl, hb⟩
      obtain ⟨⟨b0, b1, b2, b3⟩, _⟩ := res_cells hb
      have Hb := Lib.hid (((Below.refl _ w).alloc (Nat.le_refl _) _).trans (hb.mono (by simp)))
      clear hb
      go_wp2_with fail
      refine (HF.out _ Hb.out).mono ?_
      rintro e w2 ⟨rfl, hb⟩
      go_wp2_with fail
      go_ret2
      exact ⟨rfl, Hb.out.trans (hb.mono Hb.out.size)⟩
    · have hmost : most k ≤ 1125899906842624 := by rcases hk with rfl | rfl <;> decide
      have hpr : prints ⟨k, n, t, ws⟩ = Lib.itoa (n / unit k (uname k (best k n))) ++ uname k (best k n) := by
        unfold prints
        simp only
        rw [if_neg (by omega), if_neg (by omega), if_neg (by omega), if_neg (by omega)]
      rw [hpr]
      exact printU_any k n hk h1 (by omega) t p m c w hV'.out HRi.out
    · subst hk
      have hX : B (prints ⟨5, n, t, ws⟩) = t := B_toList t
      rw [hX]
      clear HJ hm hX h1 h2 h3 h4
      go_enter Tryz.func47, Tryz.ntmps47
      go_wp2_with fail
      refine (HRi.out _ ((Below.refl _ w).alloc (Nat.le_refl _) _)).mono ?_
      rintro e w1 ⟨rfl, hb⟩
      obtain ⟨⟨b0, b1, b2, b3⟩, _⟩ := res_cells hb
      have Hb := Lib.hid (((Below.refl _ w).alloc (Nat.le_refl _) _).trans (hb.mono (by simp)))
      clear hb
      go_wp2_with fail
      go_ret2
      exact ⟨rfl, Hb.out⟩
    · subst hk
      have HF : Hid (∀ W, Below w.heap.size w W → Calls Tryz.prog 101 #[.slice p m c, .string ⟨#[44]⟩] W fun e w' => e = .returned (.string (B (prints ⟨6, n, t, ws⟩))) ∧ Below W.heap.size W w') := HJ
      generalize B (prints ⟨6, n, t, ws⟩) = X at *
      clear HJ hm h1 h2 h3 h4 h5
      go_enter Tryz.func47, Tryz.ntmps47
      go_wp2_with fail
      refine (HRi.out _ ((Below.refl _ w).alloc (Nat.le_refl _) _)).mono ?_
      rintro e w1 ⟨rfl, hb⟩
      obtain ⟨⟨b0, b1, b2, b3⟩, _⟩ := res_cells hb
      have Hb := Lib.hid (((Below.refl _ w).alloc (Nat.le_refl _) _).trans (hb.mono (by simp)))
      clear hb
      go_wp2_with fail
      refine (HF.out _ Hb.out).mono ?_
      rintro e w2 ⟨rfl, hb⟩
      go_wp2_with fail
      go_ret2
      exact ⟨rfl, Hb.out.trans (hb.mono Hb.out.size)⟩
end Go.Proofs.YtbelnaiekbfoiaaGreatDoor.va
/- tinderboxlaw04.awake and ValueStands return true. Conditions: the listed variables hold what the program's text lays. -/
namespace Go.Proofs.YtbelnaiekbfoiaaGreatDoor.va
open Go.ChangeShapes Go.WideShapes Go.ChangeAt Go.RowKit gl

theorem keep {w w' : World} {b : Nat} {o : Obj} (h : w.heap[b]? = some o) (hb : Below w.heap.size w w') : w'.heap[b]? = some o := (hb.block _ (lt_of_block h)).trans h
theorem Strs.later {w w' : World} {v : Value} {xs : List ByteArray} (h : Strs w v xs) (hb : Below w.heap.size w w') : Strs w' v xs := h.below hb (Nat.le_refl _)
theorem Vlo.later {w w' : World} (h : Vlo w) (hb : Below w.heap.size w w') : Vlo w' := h.below hb (Nat.le_refl _)
theorem then_bel {w a b : World} (h : Below w.heap.size w a) (hb : Below a.heap.size a b) : Below w.heap.size w b := h.trans (hb.mono h.size)
theorem then_al {w a : World} (h : Below w.heap.size w a) (o : Obj) : Below w.heap.size w (a.alloc o) := h.alloc h.size o

/-- Parse where its answer is known. -/
theorem parsed (k : Int) (s : ByteArray) (hs : s.size ≤ 2147483647) {a b : Int} {t : ByteArray} {ws : List ByteArray} {er : Int} (h : parse wordL k s.data.toList = (⟨a, b, t, ws⟩, er)) (w : World) (hV : Vlo w) :
    Calls Tryz.prog 71 #[.int .i64 k, .string s] w fun e w' => (∃ (p : Option Addr) (n c : Nat), e = .returned (.tuple #[.agg #[.int .i64 a, .int .i64 b, .string t, .slice p n c], .int .i64 er]) ∧ Strs w' (.slice p n c) ws ∧ n = ws.length) ∧ Below w.heap.size w w' :=
  (Parse_any k s hs w hV).mono fun e w' ⟨⟨sl, he, hf⟩, hb⟩ => by
    rw [h] at he hf
    have hst := hf.strs
    obtain ⟨p, c, rfl, hc⟩ := hst
    exact ⟨⟨p, _, c, he, hf.strs, rfl⟩, hb⟩

theorem e1 : parse wordL 3 (⟨#[50, 48, 52, 56, 107]⟩ : ByteArray).data.toList = (⟨3, 2097152, ByteArray.empty, []⟩, 0) := by kernel_rfl
theorem e2 : parse wordL 6 (⟨#[108, 111, 103, 44, 110, 101, 116]⟩ : ByteArray).data.toList = (⟨6, 0, ByteArray.empty, [⟨#[108, 111, 103]⟩, ⟨#[110, 101, 116]⟩]⟩, 0) := by kernel_rfl
theorem e3 : parse wordL 4 (⟨#[53]⟩ : ByteArray).data.toList = (⟨0, 0, ByteArray.empty, []⟩, 40) := by kernel_rfl
theorem e4 : parse wordL 7 (⟨#[111, 110]⟩ : ByteArray).data.toList = (⟨0, 0, ByteArray.empty, []⟩, 1) := by kernel_rfl
theorem e5 : parse wordL 2 (⟨#[52, 54, 49, 49, 54, 56, 54, 48, 49, 56, 52, 50, 55, 51, 56, 55, 57, 48, 53]⟩ : ByteArray).data.toList = (⟨0, 0, ByteArray.empty, []⟩, 41) := by kernel_rfl
def vA : Val := ⟨3, 2097152, ByteArray.empty, []⟩
def vB : Val := ⟨6, 0, ByteArray.empty, [⟨#[108, 111, 103]⟩, ⟨#[110, 101, 116]⟩]⟩
theorem vA_b : Vb vA := ⟨by decide, by decide, by decide, by decide, by decide, by decide⟩
theorem vB_b : Vb vB := ⟨by decide, by decide, by decide, by decide, by decide, by decide⟩
theorem vA_r : right wordL vA = true := by kernel_rfl
theorem vB_r : right wordL vB = true := by kernel_rfl
theorem vA_p : print wordL vA = ([50, 109], 0) := by
  rw [print_t vA_r]
  have hb : best 3 2097152 = 2 := by kernel_rfl
  have hp : prints vA = Lib.itoa (2097152 / unit 3 (uname 3 (best 3 2097152))) ++ uname 3 (best 3 2097152) := rfl
  rw [hp, hb]
  have h2 : (2097152 : Int) / unit 3 (uname 3 2) = 2 := by kernel_rfl
  rw [h2, itoa_pos (by decide), decDigits_lt (by decide)]
  rfl
theorem vB_w1 : within wordL vB 0 2 = true := by kernel_rfl
theorem vB_w2 : within wordL vB 0 1 = false := by kernel_rfl
theorem vAB : decide (vA = vB) = false := by decide
theorem u_d : unit 4 [100] = 86400 := by decide

end Go.Proofs.YtbelnaiekbfoiaaGreatDoor.va
