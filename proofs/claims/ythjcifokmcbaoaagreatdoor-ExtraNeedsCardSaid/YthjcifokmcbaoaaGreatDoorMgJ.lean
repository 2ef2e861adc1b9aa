/- Laws and contracts on which the statement rests, part J: each text says what it proves, and its conditions. -/
import Derived.Test.YthjcifokmcbaoaaGreatDoorMgD
import Derived.Test.YthjcifokmcbaoaaGreatDoorMgA
import Derived.Shelf.SlicesE.Clone
import Derived.Shelf.SlGeneric
import Derived.Ground.SlgnProg
import Derived.Ground.SlgfProg
import Derived.Shelf.SlicesQ.IndexFunc
import Derived.Test.YthjcifokmcbaoaaGreatDoorProg
import Derived.Test.YthjcifokmcbaoaaGreatDoorMgI
import Derived.Laws.MakeOwn
import Derived.Test.YthjcifokmcbaoaaGreatDoorMgF
/- Laws for any program: a call of a Go function, whatever it gives, as one step of a region that draws its order; slices.Clone of any list. No program in sight; no conditions beside those stated. -/
namespace Go.Proofs.YthjcifokmcbaoaaGreatDoor
open Go.RowKit
section
variable {P : Program}
/-- A call, as a step. -/
theorem step_callE {ops : Array Oper} {o : Oper} {a : Act} {w : World} {K : Act → World → Prop} {Q : Exit → Act → World → Prop} {E : Prop} (hgd : o.guard = none) (f : FuncId) (xs : Array Operand) (ts : Array TypeId)
    (ho : o.op = .call { callee := .value (.func f), args := xs, argTypes := ts }) (eg : ∀ args w, (callFunc f args).run P w = .ok (.enter f args) w) (args : Array Value) (hargs' : xs.toList.map a.eval = args.toList) (R : Value → World → Prop)
    (hc : Calls P f args w fun e w' => ∃ v, e = .returned v ∧ R v w') (hK : ∀ v w', R v w' → K (a.put o.dst v) w') :
    if Region.wanted o (yielded ops a.tmps) = true then Oper.wp P o a w K Q else E := by
  have hargs : xs.map a.eval = args := by
    apply Array.ext'
    rw [Array.toList_map]
    exact hargs'
  have hw : Region.wanted o (yielded ops a.tmps) = true := by simp [Region.wanted, hgd]
  rw [if_pos hw]
  have hrun : (execOp a.eval o).run P w = .ok (.enter f args) w := by
    simp only [execOp, ho]
    have h1 : a.eval (.func f) = .func (.func f) #[] #[] := rfl
    simp only [resolve, h1, hargs]
    have := eg args w
    simpa [invoke, go_sem] using this
  unfold Oper.wp
  rw [hrun, Oper.upon_enter]
  refine hc.mono fun e w' h => ?_
  obtain ⟨v, rfl, h⟩ := h
  exact hK v w' h
open Go.Shelf ls in
set_option maxRecDepth 100000 in
theorem clone_list {ρ : Ren} (L : SlLaysE0.n41 P ρ) {α : Type} {enc : α → List Value} {k : Nat} (hk : ∀ x, (enc x).length = k) (h1 : ∀ x, ∀ v ∈ enc x, v.oneCell' = true) (hk0 : 0 < k) {z : Value} {bytes : Nat}
    (hi : (P.info? (ρ.t 23)).map (fun i => (i.zero, i.size, i.bytes)) = some (some z, k, bytes)) (hzs : z.cells.size = k) (hby : bytes ≤ 1024) (z23 : ∀ w, (Go.sizeOf (ρ.t 23)).run P w = .ok k w)
    (p : Option Addr) (m c : Nat) (l : List α) (hm : m ≤ 4294967295) (w : World) (h : rw.Rw enc k w (.slice p m c) l) :
    Calls P (ρ.f 41) #[.slice p m c] w fun e w' => ∃ v, e = .returned v ∧ w'.ownsRow w.heap.size (ρ.t 23) k v m (rw.flat enc l) ∧ Below w.heap.size w w' := by
  obtain ⟨hlen, hmc, hptr⟩ := h.ptr
  obtain ⟨i0, hi0, hi1⟩ := Option.map_eq_some_iff.1 hi
  simp only [Prod.mk.injEq] at hi1
  obtain ⟨hz, hs, hb⟩ := hi1
  rcases Nat.eq_zero_or_pos m with h0 | h0
  · subst h0
    obtain rfl : l = [] := List.length_eq_zero_iff.1 hlen
    cases p with
    | none =>
      refine (AnyE.slices_Clone_nil L 0 c w).mono ?_
      rintro e w' ⟨rfl, rfl⟩
      exact ⟨_, rfl, ⟨by simp [rw.flat], .inl ⟨rfl, rfl⟩⟩, Below.refl _ _⟩
    | some a =>
      have mixed := L.mixed; have t4 := L.t4; have a4 := L.a4; have z4 := L.z4; have v4 := L.v4; have t22 := L.t22; have a22 := L.a22; have z22 := L.z22; have v22 := L.v22
      have q22 : ∀ (w : World) (a : Option Addr) (n c n' c' : Nat), (binOp .eql (ρ.t 22) (.slice a n c) (.slice none n' c')).run P w = .ok (.bool a.isNone) w := fun w a n c n' c' => Lib.run_eql_slice_nil w _ _ a n c n' c' L.t22
      have u22 : ∀ w, Sem.run P (underlying (ρ.t 22)) w = .ok (TypeDesc.slice (ρ.t 23)) w := run_underlying t22
      have qs : (some a).isNone = false := rfl
      obtain ⟨_, _, FG⟩ := L.f41
      go_enter FG, SlBodyN.n41_ntmps ρ
      go_wp2_with fail
      go_ret
      exact ⟨_, rfl, World.ownsRow_made w #[] 0 (Nat.le_refl _) (Nat.zero_le _) (by simp), (Below.refl _ _).alloc (Nat.le_refl _) _⟩
  · obtain ⟨b, o, rfl, hbl⟩ := hptr h0
    have hmul : m * bytes ≤ 140737488355328 := Nat.le_trans (Nat.mul_le_mul hm hby) (by decide)
    refine (AnyE.slices_Clone L i0 _ k bytes hi0 hz hs hb hzs hk0 z23 b o m c (rw.flat enc l) w (by rw [rw.flat_len hk, hlen]) (by unfold maxLen; omega) hmul (fun j u hu => ?_) (fun u hu => rw.flat_one h1 l u hu)).mono ?_
    · have hj : j < l.length * k := by have := (List.getElem?_eq_some_iff.1 hu).1; rwa [rw.flat_len hk] at this
      have hq : j / k < l.length := (Nat.div_lt_iff_lt_mul hk0).2 hj
      have hr : j % k < (enc l[j / k]).length := by rw [hk]; exact Nat.mod_lt _ hk0
      have h2 := rw.flat_at hk l (j / k) _ (j % k) _ (List.getElem?_eq_getElem hq) (List.getElem?_eq_getElem hr)
      have he : j / k * k + j % k = j := by rw [Nat.mul_comm]; exact Nat.div_add_mod j k
      rw [he] at h2
      have h3 := h.cell (List.getElem?_eq_getElem hq) (List.getElem?_eq_getElem hr)
      rw [he] at h3
      rw [h3, ← h2]
      exact hu
    · rintro e w' ⟨v, rfl, hv, _, hb'⟩
      exact ⟨v, rfl, hv, hb'⟩
end
end Go.Proofs.YthjcifokmcbaoaaGreatDoor
/-
  DERIVED: THE SHELF's CONTRACTS AT THIS DUMP, IN PLAIN WORDS (tools/lay-plain.mjs out of 'YthjcifokmcbaoaaGreatDoorShelf2.lean', which tools/lay-shelf.mjs wrote): THE SAME DECLARATIONS UNDER THE SAME NAMES: 'import', 'namespace', 'open', 'def', 'theorem' AND NOTHING ELSE: no command of the shelf's: FOR A HAND-IN. Each laying: the table of numbers ('.._ren') and one theorem, a field a fact of the dump's own or the kernel's comparison; each contract: ONE APPLICATION.
-/
namespace Go.Proofs
open Go.Shelf
def Tryz.cloneTx_ren : Go.Shelf.Ren := ⟨fun | 41 => 79 | n => n, fun | 22 => 24 | 23 => 9 | 4 => 4 | n => n, fun | n => n⟩
theorem Tryz.cloneTx : Go.Proofs.SlLaysE0.n41 Tryz.prog Tryz.cloneTx_ren := {
  mixed := by kernel_rfl
  f41 := ⟨Tryz.f79.name, by decide, Tryz.func79.trans (congrArg some (by kernel_rfl))⟩
  t4 := Tryz.underlying4
  a4 := Tryz.isAgg4
  z4 := Tryz.sizeOf4
  v4 := Tryz.zeroValue4
  t22 := Tryz.underlying24
  a22 := Tryz.isAgg24
  z22 := Tryz.sizeOf24
  v22 := Tryz.zeroValue24 }
def Tryz.cloneSp_ren : Go.Shelf.Ren := ⟨fun | 41 => 86 | n => n, fun | 22 => 34 | 23 => 42 | 4 => 4 | n => n, fun | n => n⟩
theorem Tryz.cloneSp : Go.Proofs.SlLaysE0.n41 Tryz.prog Tryz.cloneSp_ren := {
  mixed := by kernel_rfl
  f41 := ⟨Tryz.f86.name, by decide, Tryz.func86.trans (congrArg some (by kernel_rfl))⟩
  t4 := Tryz.underlying4
  a4 := Tryz.isAgg4
  z4 := Tryz.sizeOf4
  v4 := Tryz.zeroValue4
  t22 := Tryz.underlying34
  a22 := Tryz.isAgg34
  z22 := Tryz.sizeOf34
  v22 := Tryz.zeroValue34 }
def Tryz.idxSp_ren : Go.Shelf.Ren := ⟨fun | 6 => 154 | n => n, fun | 22 => 34 | 23 => 42 | 25 => 40 | 3 => 3 | 0 => 0 | 4 => 4 | n => n, fun | n => n⟩
theorem Tryz.idxSp : Go.Proofs.SlLaysH0.n6 Tryz.prog Tryz.idxSp_ren := {
  mixed := by kernel_rfl
  f6 := ⟨Tryz.f154.name, by decide, Tryz.func154.trans (congrArg some (by kernel_rfl))⟩
  t0 := Tryz.underlying0
  a0 := Tryz.isAgg0
  z0 := Tryz.sizeOf0
  v0 := Tryz.zeroValue0
  t3 := Tryz.underlying3
  a3 := Tryz.isAgg3
  z3 := Tryz.sizeOf3
  v3 := Tryz.zeroValue3
  t4 := Tryz.underlying4
  a4 := Tryz.isAgg4
  z4 := Tryz.sizeOf4
  v4 := Tryz.zeroValue4
  t22 := Tryz.underlying34
  a22 := Tryz.isAgg34
  z22 := Tryz.sizeOf34
  v22 := Tryz.zeroValue34
  t25 := Tryz.underlying40
  a25 := Tryz.isAgg40
  z25 := Tryz.sizeOf40
  v25 := Tryz.zeroValue40 }
def Tryz.hasSp_ren : Go.Shelf.Ren := ⟨fun | 8 => 98 | 6 => 154 | n => n, fun | 22 => 34 | 23 => 42 | 25 => 40 | 4 => 4 | 3 => 3 | 0 => 0 | n => n, fun | n => n⟩
theorem Tryz.hasSp : Go.Proofs.SlLaysH0.n8 Tryz.prog Tryz.hasSp_ren := {
  mixed := by kernel_rfl
  f6 := ⟨Tryz.f154.name, by decide, Tryz.func154.trans (congrArg some (by kernel_rfl))⟩
  f8 := ⟨Tryz.f98.name, by decide, Tryz.func98.trans (congrArg some (by kernel_rfl))⟩
  t0 := Tryz.underlying0
  a0 := Tryz.isAgg0
  z0 := Tryz.sizeOf0
  v0 := Tryz.zeroValue0
  t3 := Tryz.underlying3
  a3 := Tryz.isAgg3
  z3 := Tryz.sizeOf3
  v3 := Tryz.zeroValue3
  t4 := Tryz.underlying4
  a4 := Tryz.isAgg4
  z4 := Tryz.sizeOf4
  v4 := Tryz.zeroValue4
  t22 := Tryz.underlying34
  a22 := Tryz.isAgg34
  z22 := Tryz.sizeOf34
  v22 := Tryz.zeroValue34
  t25 := Tryz.underlying40
  a25 := Tryz.isAgg40
  z25 := Tryz.sizeOf40
  v25 := Tryz.zeroValue40 }
end Go.Proofs
/- Package move: own gives a move in memory of its own. Conditions: lists of at most 4294967295 elements. -/
namespace Go.Proofs.YthjcifokmcbaoaaGreatDoor.st
open Go.ChangeShapes Go.WideShapes Go.ChangeAt Go.RowKit gl ls

theorem infoTx : (Tryz.prog.info? 9).map (fun i => (i.zero, i.size, i.bytes)) = some (some (.string .empty), 1, 16) := by kernel_rfl
theorem infoSp : (Tryz.prog.info? 42).map (fun i => (i.zero, i.size, i.bytes)) = some (some (.agg #[.int .i64 0, .string .empty, .string .empty, .string .empty, .string .empty]), 5, 72) := by kernel_rfl
theorem spC_one : ∀ (x : Sp), ∀ v ∈ spC x, v.oneCell' = true := by
  intro x v hv
  simp only [spC, List.mem_cons, List.not_mem_nil, or_false] at hv
  rcases hv with rfl | rfl | rfl | rfl | rfl <;> rfl
theorem cloneTx_any (p : Option Addr) (m c : Nat) (l : List (List UInt8)) (hm : m ≤ 4294967295) (w : World) (h : Txt w (.slice p m c) l) :
    Calls Tryz.prog 79 #[.slice p m c] w fun e w' => ∃ v, e = .returned v ∧ (∃ p' c', v = .slice p' m c' ∧ m ≤ c' ∧ NewTx w.heap.size w' (.slice p' m m) l) ∧ Below w.heap.size w w' := by
  have hl := h.ptr.1
  refine (clone_list Tryz.cloneTx txC_len txC_one (by decide) infoTx rfl (by decide) Tryz.sizeOf9 p m c l hm w h).mono ?_
  rintro e w' ⟨v, rfl, hv, hb⟩
  have hn := rw.own_new txC_len (by decide) hv
  obtain ⟨p', c', rfl⟩ := hn.form
  rw [hl] at hn ⊢
  exact ⟨_, rfl, ⟨p', c', rfl, (hn.rw txC_len).ptr.2.1, hn.clip⟩, hb⟩
theorem cloneSp_any (p : Option Addr) (m c : Nat) (l : List Sp) (hm : m ≤ 4294967295) (w : World) (h : Sps w (.slice p m c) l) :
    Calls Tryz.prog 86 #[.slice p m c] w fun e w' => ∃ v, e = .returned v ∧ (∃ p' c', v = .slice p' m c' ∧ m ≤ c' ∧ NewSp w.heap.size w' (.slice p' m m) l) ∧ Below w.heap.size w w' := by
  have hl := h.ptr.1
  refine (clone_list Tryz.cloneSp spC_len spC_one (by decide) infoSp rfl (by decide) Tryz.sizeOf42 p m c l hm w h).mono ?_
  rintro e w' ⟨v, rfl, hv, hb⟩
  have hn := rw.own_new spC_len (by decide) hv
  obtain ⟨p', c', rfl⟩ := hn.form
  rw [hl] at hn ⊢
  exact ⟨_, rfl, ⟨p', c', rfl, (hn.rw spC_len).ptr.2.1, hn.clip⟩, hb⟩
set_option maxRecDepth 100000 in
theorem clipTx_any (p : Option Addr) (n c : Nat) (hn : n ≤ c) (hc : n ≤ 4294967295) (w : World) : Calls Tryz.prog 84 #[.slice p n c] w fun e w' => ∃ v, e = .returned v ∧ v = .slice p n n ∧ w = w' := by
  have h1 : (n : Int) ≤ (c : Int) := by omega
  have h2 : (0 : Int) ≤ (n : Int) := by omega
  go_enter Tryz.func84, Tryz.ntmps84
  go_wp2_with fail
  go_ret
  exact ⟨_, rfl, rfl, rfl⟩
set_option maxRecDepth 100000 in
theorem clipSp_any (p : Option Addr) (n c : Nat) (hn : n ≤ c) (hc : n ≤ 4294967295) (w : World) : Calls Tryz.prog 85 #[.slice p n c] w fun e w' => ∃ v, e = .returned v ∧ v = .slice p n n ∧ w = w' := by
  have h1 : (n : Int) ≤ (c : Int) := by omega
  have h2 : (0 : Int) ≤ (n : Int) := by omega
  go_enter Tryz.func85, Tryz.ntmps85
  go_wp2_with fail
  go_ret
  exact ⟨_, rfl, rfl, rfl⟩
theorem egCT (args : Array Value) (w : World) : (callFunc 79 args).run Tryz.prog w = .ok (.enter 79 args) w := enters Tryz.func79 (by kernel_rfl) (by kernel_rfl) args w
theorem egCS (args : Array Value) (w : World) : (callFunc 86 args).run Tryz.prog w = .ok (.enter 86 args) w := enters Tryz.func86 (by kernel_rfl) (by kernel_rfl) args w
theorem egKT (args : Array Value) (w : World) : (callFunc 84 args).run Tryz.prog w = .ok (.enter 84 args) w := enters Tryz.func84 (by kernel_rfl) (by kernel_rfl) args w
theorem egKS (args : Array Value) (w : World) : (callFunc 85 args).run Tryz.prog w = .ok (.enter 85 args) w := enters Tryz.func85 (by kernel_rfl) (by kernel_rfl) args w
theorem froz_then {w w' : World} {b o : Nat} {c : Array Value} {t : TypeId} (h : w.heap[b]? = some (.cells c t (0, 0))) (hb : Below w.heap.size w w') : w'.frozen? ⟨b, o, none⟩ = false := free_in ((hb.block b (lt_of_block h)).trans h)
theorem new_far {α : Type} {enc : α → List Value} {k : Nat} {T : TypeId} {M : Nat} {w : World} {v : Value} {l : List α} (h : rw.NewRw enc k T M w v l) {a : Addr} (u : Value) (hn : a.block < M) : rw.NewRw enc k T M (w.setCell a u) v l := by
  rcases h with h | ⟨g, c, cs, rfl, hc, hg, hbk, h2⟩
  · exact .inl h
  · exact .inr ⟨g, c, cs, rfl, hc, hg, (heap_setCell_other w a g u (by omega)).trans hbk, h2⟩
/-- A move's own lists have no room behind them. -/
def Tight (r : MvR) : Prop := r.cn = r.nn ∧ r.cs = r.ns
set_option maxHeartbeats 4000000 in
set_option maxRecDepth 100000 in
theorem own_any (id : List UInt8) (pn ps : Option Addr) (nn cn ns cs : Nat) (needs : List (List UInt8)) (steps : List Sp) (hn : nn ≤ 4294967295) (hs : ns ≤ 4294967295) (w : World) (h1 : Txt w (.slice pn nn cn) needs) (h2 : Sps w (.slice ps ns cs) steps) :
    Calls Tryz.prog 65 #[.agg #[.string (B id), .slice pn nn cn, .slice ps ns cs]] w fun e w' => (∃ r : MvR, e = .returned (.agg #[.string (B r.id), r.vn, r.vs]) ∧ Goes w.heap.size w' r ⟨id, needs, steps⟩ ∧ Tight r) ∧ Below w.heap.size w w' := by
  obtain ⟨wA, hA⟩ : ∃ wA, wA = w.alloc (.cells #[.string (B id), .slice pn nn cn, .slice ps ns cs] 36) := ⟨_, rfl⟩
  obtain ⟨wB, hB⟩ : ∃ wB, wB = wA.alloc (.cells #[.string ⟨#[]⟩, .slice none 0 0, .slice none 0 0] 36) := ⟨_, rfl⟩
  have zA : wA.heap.size = w.heap.size + 1 := by rw [hA]; simp
  have zB : wB.heap.size = w.heap.size + 2 := by rw [hB]; simp [zA]
  have kA : wA.heap[w.heap.size]? = some (.cells #[.string (B id), .slice pn nn cn, .slice ps ns cs] 36 (0, 0)) := by rw [hA]; exact heap_alloc_new w _
  have kB : wB.heap[w.heap.size + 1]? = some (.cells #[.string ⟨#[]⟩, .slice none 0 0, .slice none 0 0] 36 (0, 0)) := by rw [hB, ← zA]; exact heap_alloc_new wA _
  have kA' : wB.heap[w.heap.size]? = some (.cells #[.string (B id), .slice pn nn cn, .slice ps ns cs] 36 (0, 0)) := by rw [hB]; exact heap_al kA _
  have hbA : Below w.heap.size w wA := by rw [hA]; exact (Below.refl _ _).alloc (Nat.le_refl _) _
  have hbB : Below w.heap.size w wB := by rw [hB]; exact hbA.alloc (by omega) _
  have HbB := Lib.hid hbB
  have HT := Lib.hid (h1.later hbB)
  have HS := Lib.hid (h2.later hbB)
  have HCT := Lib.hid fun (W : World) (hb : Below wB.heap.size wB W) => cloneTx_any pn nn cn needs hn W (HT.out.later hb)
  have HCS := Lib.hid fun (W : World) (hb : Below wB.heap.size wB W) => cloneSp_any ps ns cs steps hs W (HS.out.later hb)
  have hA0 : wB.cell? ⟨w.heap.size, 0, none⟩ = some (.string (B id)) := cell_in kA'
  have hA1 : wB.cell? ⟨w.heap.size, 1, none⟩ = some (.slice pn nn cn) := cell_in kA'
  have hA2 : wB.cell? ⟨w.heap.size, 2, none⟩ = some (.slice ps ns cs) := cell_in kA'
  have hB0 : wB.cell? ⟨w.heap.size + 1, 0, none⟩ = some (.string ⟨#[]⟩) := cell_in kB
  have hB1 : wB.cell? ⟨w.heap.size + 1, 1, none⟩ = some (.slice none 0 0) := cell_in kB
  have hB2 : wB.cell? ⟨w.heap.size + 1, 2, none⟩ = some (.slice none 0 0) := cell_in kB
  have HA := Lib.hid hA
  have HB := Lib.hid hB
  have HkA := Lib.hid kA'
  have HkB := Lib.hid kB
  clear h1 h2 hA hB kA kB kA' hbA hbB
  generalize hnm : B id = nm at *
  have HNm := Lib.hid hnm
  clear hnm
  go_enter Tryz.func65, Tryz.ntmps65
  go_upto_region 1 with (fail)
  try rw [← HA.out]
  try rw [← HB.out]
  go_region_law
    (first
      | (refine step_callE (by rfl) 79 _ _ (by rfl) egCT _ (by rfl) _ (HCT.out _ (Below.refl _ _).drew) ?_; rintro v w1 ⟨⟨p1, c1, rfl, hc1, hn1⟩, hb1⟩; have HN1 := Lib.hid hn1; have hbw1 := (Below.refl wB.heap.size wB).drew.trans hb1; have HBw1 := Lib.hid hbw1; have e0 := cell_then hA0 hbw1; have e1 := cell_then hA1 hbw1; have e2 := cell_then hA2 hbw1; clear hn1 hb1 hbw1)
      | (refine step_callE (by rfl) 86 _ _ (by rfl) egCS _ (by rfl) _ (HCS.out _ HBw1.out) ?_; rintro v w2 ⟨⟨p2, c2, rfl, hc2, hn2⟩, hb2⟩; have HN2 := Lib.hid hn2; have HN12 := Lib.hid (HN1.out.later hb2); have hbw2 := then_bel HBw1.out hb2; have HBw2 := Lib.hid hbw2; have f0 := cell_then hA0 hbw2; have f1 := cell_then hA1 hbw2; have f2 := cell_then hA2 hbw2; have g0 := cell_then hB0 hbw2; have g1 := cell_then hB1 hbw2; have g2 := cell_then hB2 hbw2; have z1 := froz_then HkA.out hbw2 (o := 1); have z2 := froz_then HkA.out hbw2 (o := 2); have y0 := froz_then HkB.out hbw2 (o := 0); have y1 := froz_then HkB.out hbw2 (o := 1); have y2 := froz_then HkB.out hbw2 (o := 2); clear hn2 hb2 hbw2)
      | (refine step_callE (by rfl) 84 _ _ (by rfl) egKT _ (by rfl) _ (clipTx_any _ _ _ (by assumption) (by omega) _) ?_; rintro v wq ⟨rfl, rfl⟩)
      | (refine step_callE (by rfl) 85 _ _ (by rfl) egKS _ (by rfl) _ (clipSp_any _ _ _ (by assumption) (by omega) _) ?_; rintro v wq ⟨rfl, rfl⟩)
      | fail)
  all_goals
    have T3 : Hid (NewTx wB.heap.size w2 (.slice p1 nn nn) needs ∧ NewSp wB.heap.size w2 (.slice p2 ns ns) steps ∧ Below w.heap.size w w2) := Lib.hid ⟨HN12.out.mono (Nat.le_refl _), HN2.out.mono HBw1.out.size, then_bel HbB.out HBw2.out⟩
    clear hA0 hA1 hA2 hB0 hB1 hB2 e0 e1 e2
    have hk2 := (HBw2.out.block _ (lt_of_block HkB.out)).trans HkB.out
    have HK3 : Hid (_ = some (Obj.cells #[.string nm, .slice p1 nn nn, .slice p2 ns ns] 36 (0, 0))) := Lib.hid (heap_set (o := 2) (heap_set (o := 1) (heap_set (o := 0) (heap_set_ne (heap_set_ne hk2 (p := ⟨w.heap.size, 1, none⟩) (.slice p1 nn nn) (by simp)) (p := ⟨w.heap.size, 2, none⟩) (.slice p2 ns ns) (by simp)) (.string nm)) (.slice p1 nn nn)) (.slice p2 ns ns))
    clear hk2
    go_wp2_with fail
    refine bodyPost_ret (results_cell_row rfl _ _ (w.heap.size + 1) 36 _ _ _ rfl HK3.out Tryz.underlying36 rfl (by kernel_rfl)) rfl ?_
    obtain ⟨t1, t2, t3⟩ := T3.out
    refine ⟨⟨⟨id, p1, nn, nn, p2, ns, ns⟩, by rw [HNm.out], ⟨rfl, rw.NewRw.mono (M := wB.heap.size) ?_ (by omega), rw.NewRw.mono (M := wB.heap.size) ?_ (by omega)⟩, rfl, rfl⟩, ?_⟩
    · repeat (refine new_far ?_ _ (by simp only; omega))
      exact t1
    · repeat (refine new_far ?_ _ (by simp only; omega))
      exact t2
    · repeat (refine Below.setCell ?_ (by simp only; omega) _)
      exact t3
end Go.Proofs.YthjcifokmcbaoaaGreatDoor.st
/- Package move: a move that may be is right. Conditions: the listed variables hold what the program's text lays. -/
namespace Go.Proofs.YthjcifokmcbaoaaGreatDoor.st
open Go.ChangeShapes Go.WideShapes Go.ChangeAt Go.RowKit gl ls

def keptL (t : List UInt8) : Bool := decide (t = [109, 111, 118, 101, 115]) || decide (t = [115, 101, 116, 116, 105, 110, 103, 115])
def ownS (s : Sp) : Bool := keptL s.table || (decide (s.kind = 4) && keptL s.to)
/-- A move that may be. -/
structure GoodMv (m : Mv) : Prop where
  id : wordL m.id = true
  few : m.needs.length ≤ 8
  some' : 1 ≤ m.steps.length
  most : m.steps.length ≤ 16
  need : ∀ (i : Nat) (n : List UInt8), m.needs[i]? = some n → wordL n = true ∧ n ≠ m.id ∧ ∀ q, 0 < i → m.needs[i - 1]? = some q → ltL q n = true
  step : ∀ s ∈ m.steps, rightL s = true ∧ ownS s = false ∧ SpSz s
theorem word_sz {x : List UInt8} (h : wordL x = true) : (B x).size ≤ 2147483647 := by
  have : x.length ≤ 32 := by
    unfold wordL at h
    simp only [Bool.and_eq_true, decide_eq_true_eq] at h
    exact h.2.2
  rw [B_size]
  omega
theorem seq_lit (a l : List UInt8) : ((B a).toList == l) = decide (a = l) := by
  rw [ByteArray.toList_eq, B_list, Bool.eq_iff_iff]
  simp
theorem kept_any (t : List UInt8) (w : World) : Calls Tryz.prog 155 #[.string (B t)] w fun e w' => e = .returned (.bool (keptL t)) ∧ w = w' := by
  have q1 := seq_lit t [109, 111, 118, 101, 115]
  have q2 := seq_lit t [115, 101, 116, 116, 105, 110, 103, 115]
  have Hr : Hid (keptL t = (decide (t = [109, 111, 118, 101, 115]) || decide (t = [115, 101, 116, 116, 105, 110, 103, 115]))) := Lib.hid rfl
  generalize decide (t = [109, 111, 118, 101, 115]) = d1 at *
  generalize decide (t = [115, 101, 116, 116, 105, 110, 103, 115]) = d2 at *
  generalize keptL t = r at *
  generalize B t = tt at *
  cases d1
  · go_enter Tryz.func155, Tryz.ntmps155
    go_wp2_with fail
    go_ret
    exact ⟨ret_bool (by rw [Hr.out]; simp), rfl⟩
  · go_enter Tryz.func155, Tryz.ntmps155
    go_wp2_with fail
    go_ret
    exact ⟨ret_bool (by rw [Hr.out]; rfl), rfl⟩
set_option maxHeartbeats 2000000 in
set_option maxRecDepth 100000 in
theorem ownS_any (s : Sp) (w : World) : Calls Tryz.prog 100 #[spA s] w fun e w' => e = .returned (.bool (ownS s)) ∧ Below w.heap.size w w' := by
  unfold spA
  obtain ⟨wA, hA⟩ : ∃ wA, wA = w.alloc (.cells #[.int .i64 s.kind, .string (B s.table), .string (B s.key), .string (B s.to), .string (B s.text)] 42) := ⟨_, rfl⟩
  obtain ⟨hbA, c0, c1, c2, c3, c4⟩ := box1 hA
  have Hr : Hid (ownS s = (keptL s.table || (decide (s.kind = 4) && keptL s.to))) := Lib.hid rfl
  have H1 := Lib.hid (kept_any s.table)
  have H2 := Lib.hid (kept_any s.to)
  have q3 : (s.kind == 4) = decide (s.kind = 4) := rfl
  have HA := Lib.hid hA
  have HbA := Lib.hid hbA
  clear hA hbA
  generalize ownS s = r at *
  generalize hd3 : decide (s.kind = 4) = d3 at *
  clear hd3
  generalize hk1 : keptL s.table = k1 at *
  generalize hk2 : keptL s.to = k2 at *
  clear hk1 hk2
  generalize B s.table = x1 at *
  generalize B s.key = x2 at *
  generalize B s.to = x3 at *
  generalize B s.text = x4 at *
  cases k1
  · cases d3
    · go_enter Tryz.func100, Tryz.ntmps100
      go_wp2_with fail
      rw [← HA.out]
      refine (H1.out _).mono ?_
      rintro e w1 ⟨rfl, rfl⟩
      go_wp2_with fail
      go_ret
      exact ⟨ret_bool (by rw [Hr.out]; rfl), HbA.out⟩
    · go_enter Tryz.func100, Tryz.ntmps100
      go_wp2_with fail
      rw [← HA.out]
      refine (H1.out _).mono ?_
      rintro e w1 ⟨rfl, rfl⟩
      go_wp2_with fail
      refine (H2.out _).mono ?_
      rintro e w1 ⟨rfl, rfl⟩
      go_wp2_with fail
      go_ret
      exact ⟨ret_bool (by rw [Hr.out]; simp), HbA.out⟩
  · go_enter Tryz.func100, Tryz.ntmps100
    go_wp2_with fail
    rw [← HA.out]
    refine (H1.out _).mono ?_
    rintro e w1 ⟨rfl, rfl⟩
    go_wp2_with fail
    go_ret
    exact ⟨ret_bool (by rw [Hr.out]; rfl), HbA.out⟩
/-- The closure: a step that may not be. -/
def badS (s : Sp) : Bool := !rightL s || ownS s
set_option maxHeartbeats 2000000 in
set_option maxRecDepth 100000 in
theorem bad_any (s : Sp) (hs : SpSz s) (w : World) (hS : Slo w) : Calls Tryz.prog 99 #[spA s] w fun e w' => e = .returned (.bool (badS s)) ∧ Below w.heap.size w w' := by
  obtain ⟨z1, z2, z3, z4⟩ := hs
  have HO := Lib.hid (ownS_any s)
  unfold spA at HO ⊢
  obtain ⟨wA, hA⟩ : ∃ wA, wA = w.alloc (.cells #[.int .i64 s.kind, .string (B s.table), .string (B s.key), .string (B s.to), .string (B s.text)] 42) := ⟨_, rfl⟩
  obtain ⟨hbA, c0, c1, c2, c3, c4⟩ := box1 hA
  have HR := Lib.hid (Right_any s.kind (B s.table) (B s.key) (B s.to) (B s.text) (by rw [B_size]; exact z1) (by rw [B_size]; exact z2) (by rw [B_size]; exact z3) (by rw [B_size]; exact z4) wA (hS.later hbA))
  simp only at HR
  have Hr : Hid (badS s = (!rightL s || ownS s)) := Lib.hid rfl
  have C0 := Lib.hid c0
  have C1 := Lib.hid c1
  have C2 := Lib.hid c2
  have C3 := Lib.hid c3
  have C4 := Lib.hid c4
  have HA := Lib.hid hA
  have HbA := Lib.hid hbA
  clear hA hbA hS z1 z2 z3 z4
  generalize badS s = r at *
  generalize hk1 : rightL s = k1 at *
  generalize hk2 : ownS s = k2 at *
  clear hk1 hk2
  generalize B s.table = x1 at *
  generalize B s.key = x2 at *
  generalize B s.to = x3 at *
  generalize B s.text = x4 at *
  cases k1
  · go_enter Tryz.func99, Tryz.ntmps99
    go_wp2_with fail
    rw [← HA.out]
    refine HR.out.mono ?_
    rintro e w1 ⟨rfl, hb1⟩
    have Hb1 := Lib.hid (then_bel HbA.out hb1)
    clear hb1
    go_wp2_with fail
    go_ret
    exact ⟨ret_bool (by rw [Hr.out]; rfl), Hb1.out⟩
  · go_enter Tryz.func99, Tryz.ntmps99
    go_wp2_with fail
    rw [← HA.out]
    refine HR.out.mono ?_
    rintro e w1 ⟨rfl, hb1⟩
    have d0 := cell_then C0.out hb1
    have d1 := cell_then C1.out hb1
    have d2 := cell_then C2.out hb1
    have d3 := cell_then C3.out hb1
    have d4 := cell_then C4.out hb1
    have Hb1 := Lib.hid (then_bel HbA.out hb1)
    clear hb1 c0 c1 c2 c3 c4
    go_wp2_with fail
    refine (HO.out _).mono ?_
    rintro e w2 ⟨rfl, hb2⟩
    have Hb2 := Lib.hid (then_bel Hb1.out hb2)
    clear hb2
    go_wp2_with fail
    go_ret
    exact ⟨ret_bool (by rw [Hr.out]; simp), Hb2.out⟩
theorem egBad (args : Array Value) (w : World) : (callFunc 99 args).run Tryz.prog w = .ok (.enter 99 args) w := enters Tryz.func99 (by kernel_rfl) (by kernel_rfl) args w
/-- No step is bad. -/
theorem hasBad_any (p : Option Addr) (m c : Nat) (l : List Sp) (hm0 : 0 < m) (hm : m ≤ 4294967295) (w : World) (hS : Slo w) (h : Sps w (.slice p m c) l) (hg : ∀ s ∈ l, rightL s = true ∧ ownS s = false ∧ SpSz s) :
    Calls Tryz.prog 98 #[.slice p m c, .func (.func 99) #[] #[]] w fun e w' => e = .returned (.bool false) ∧ Below w.heap.size w w' := by
  obtain ⟨hlen, hmc, hptr⟩ := h.ptr
  obtain ⟨b, o, rfl, hb⟩ := hptr hm0
  have hp : ∀ (W : World) (x : {s : Sp // rightL s = true ∧ ownS s = false ∧ SpSz s}), Below w.heap.size w W → Calls Tryz.prog 99 (#[.agg (spC x.1).toArray] ++ #[]) W fun e w' => e = .returned (.bool false) ∧ Below w.heap.size w w' := by
    intro W x hW
    refine (bad_any x.1 x.2.2.2 W (hS.later hW)).mono ?_
    rintro e w' ⟨rfl, hb'⟩
    refine ⟨?_, hW.trans (hb'.mono hW.size)⟩
    unfold badS
    rw [x.2.1, x.2.2.1]
    rfl
  obtain ⟨l', hl'⟩ : ∃ l' : List {s : Sp // rightL s = true ∧ ownS s = false ∧ SpSz s}, l'.map (·.1) = l := ⟨l.attach.map fun s => ⟨s.1, hg s.1 s.2⟩, by rw [List.map_map]; exact List.attach_map_subtype_val l⟩
  have hlen' : l'.length = m := by rw [← hlen, ← hl', List.length_map]
  haveI : Inhabited {s : Sp // rightL s = true ∧ ownS s = false ∧ SpSz s} := ⟨l'[0]'(by omega)⟩
  refine (AnyQ.slices_ContainsFunc Tryz.hasSp 5 Tryz.isAgg42 Tryz.sizeOf42 (fun x : {s : Sp // rightL s = true ∧ ownS s = false ∧ SpSz s} => spC x.1) (fun x => spC_len x.1) (fun _ => false) 99 #[] egBad b o m c l' w hp (by omega) (by omega) hb (fun j hj i v hv => ?_)).mono ?_
  · rw [getElem!_pos l' j hj] at hv
    have hx : l[j]? = some l'[j].1 := by rw [← hl', List.getElem?_map, List.getElem?_eq_getElem hj]; rfl
    have := h.cell hx hv
    rw [Nat.add_assoc]
    exact this
  · rintro e w' ⟨rfl, hb'⟩
    refine ⟨?_, hb'⟩
    congr 2
    simp
end Go.Proofs.YthjcifokmcbaoaaGreatDoor.st
/- Package move: right says yes to a move that may be. Conditions: the listed variables hold what the program's text lays. -/
namespace Go.Proofs.YthjcifokmcbaoaaGreatDoor.st
open Go.ChangeShapes Go.WideShapes Go.ChangeAt Go.RowKit gl ls

theorem run_geq {P : Program} (t : TypeId) (a b : ByteArray) (w : World) : (binOp .geq t (.string a) (.string b)).run P w = .ok (.bool (!(Op.bytesLess a.toList b.toList))) w := by simp [binOp, Op.stringOp]
set_option maxHeartbeats 4000000 in
set_option maxRecDepth 100000 in
theorem rightMv_any (m : Mv) (hg : GoodMv m) (pn ps : Option Addr) (nn cn ns cs : Nat) (w : World) (h1 : Txt w (.slice pn nn cn) m.needs) (h2 : Sps w (.slice ps ns cs) m.steps) (hS : Slo w) :
    Calls Tryz.prog 62 #[.agg #[.string (B m.id), .slice pn nn cn, .slice ps ns cs]] w fun e w' => e = .returned (.bool true) ∧ Below w.heap.size w w' := by
  obtain ⟨wA, hA⟩ : ∃ wA, wA = w.alloc (.cells #[.string (B m.id), .slice pn nn cn, .slice ps ns cs] 36) := ⟨_, rfl⟩
  have kA : wA.heap[w.heap.size]? = some (.cells #[.string (B m.id), .slice pn nn cn, .slice ps ns cs] 36 (0, 0)) := by rw [hA]; exact heap_alloc_new w _
  have zA : wA.heap.size = w.heap.size + 1 := by rw [hA]; simp
  have hbA : Below w.heap.size w wA := by rw [hA]; exact (Below.refl _ _).alloc (Nat.le_refl _) _
  have hnl : m.needs.length = nn := h1.ptr.1
  have hsl : m.steps.length = ns := h2.ptr.1
  have hn8 : nn ≤ 8 := by rw [← hnl]; exact hg.few
  have hs1 : 1 ≤ ns := by rw [← hsl]; exact hg.some'
  have hs16 : ns ≤ 16 := by rw [← hsl]; exact hg.most
  have HW := Lib.hid fun (t : List UInt8) (ht : wordL t = true) (W : World) (hb : Below wA.heap.size wA W) => IsWord_any (B t) (word_sz ht) W (((hS.later hbA).later hb).glo)
  simp only at HW
  have HB := Lib.hid fun (W : World) (hb : Below wA.heap.size wA W) => hasBad_any ps ns cs m.steps (by omega) (by omega) W ((hS.later hbA).later hb) ((h2.later hbA).later hb) hg.step
  have HT := Lib.hid (h1.later hbA)
  have HP := Lib.hid (h1.later hbA).ptr.2.2
  have HG := Lib.hid hg
  have HA := Lib.hid hA
  have HkA := Lib.hid kA
  have HbA := Lib.hid hbA
  have Hnl := Lib.hid hnl
  have c0 : wA.cell? ⟨w.heap.size, 0, none⟩ = some (.string (B m.id)) := cell_in kA
  have HWi := Lib.hid (HW.out m.id hg.id wA (Below.refl _ _))
  rw [hg.id] at HWi
  clear h1 h2 hS hg hA kA hbA hnl hsl
  have q1 : decide ((nn : Int) > 8) = false := by rw [decide_eq_false_iff_not]; omega
  have q2 : decide ((ns : Int) < 1) = false := by rw [decide_eq_false_iff_not]; omega
  have q3 : decide ((ns : Int) > 16) = false := by rw [decide_eq_false_iff_not]; omega
  have q4 : decide ((8 : Int) < (nn : Int)) = false := by rw [decide_eq_false_iff_not]; omega
  have q5 : decide ((16 : Int) < (ns : Int)) = false := by rw [decide_eq_false_iff_not]; omega
  have q6 : ¬ ((8 : Int) < (nn : Int)) := by omega
  have q7 : ¬ ((16 : Int) < (ns : Int)) := by omega
  have q8 : ¬ ((ns : Int) < 1) := by omega
  generalize hnm : B m.id = nm at *
  have HNm := Lib.hid hnm
  clear hnm
  go_enter Tryz.func62, Tryz.ntmps62
  go_wp2_with fail
  rw [← HA.out]
  refine HWi.out.mono ?_
  rintro e w1 ⟨rfl, hb1⟩
  have c1 := (hb1.block _ (lt_of_block HkA.out)).trans HkA.out
  have d0 : w1.cell? ⟨w.heap.size, 0, none⟩ = some (.string nm) := cell_in c1
  have d1 : w1.cell? ⟨w.heap.size, 1, none⟩ = some (.slice pn nn cn) := cell_in c1
  have d2 : w1.cell? ⟨w.heap.size, 2, none⟩ = some (.slice ps ns cs) := cell_in c1
  have Hb1 := Lib.hid hb1
  clear c0 c1 hb1
  go_wp2_with fail
  clear d0 d1 d2
  go_loopw [30] (fun i wr => ∃ k : Nat, k ≤ nn ∧ i = .int .i64 k ∧ Hid (Below wA.heap.size wA wr)) (fun i _ => nn - (intOf i).toNat)
  case atStart => exact ⟨0, by omega, rfl, Hb1⟩
  case round =>
    clear Hb1
    obtain ⟨k, hk, rfl, Hb⟩ := hrel
    have c1 := (Hb.out.block _ (lt_of_block HkA.out)).trans HkA.out
    have d0 : wr.cell? ⟨w.heap.size, 0, none⟩ = some (.string nm) := cell_in c1
    have d1 : wr.cell? ⟨w.heap.size, 1, none⟩ = some (.slice pn nn cn) := cell_in c1
    have d2 : wr.cell? ⟨w.heap.size, 2, none⟩ = some (.slice ps ns cs) := cell_in c1
    clear c1
    by_cases hlt : k < nn
    · obtain ⟨bn, on, rfl, hbn⟩ := HP.out (by omega)
      obtain ⟨x, hx⟩ : ∃ x, m.needs[k]? = some x := ⟨_, List.getElem?_eq_getElem (by rw [Hnl.out]; exact hlt)⟩
      obtain ⟨g1, g2, g3⟩ := HG.out.need k x hx
      have cx := txt_cell (HT.out.later Hb.out) hx
      have HWx := Lib.hid (HW.out x g1 wr Hb.out)
      rw [g1] at HWx
      have hne : ((B x).toList == nm.toList) = false := by
        rw [← HNm.out, seq_dec]
        rw [decide_eq_false_iff_not]
        exact g2
      have hki : (k : Int) < (nn : Int) := by omega
      have hk5 : (0 : Int) ≤ (k : Int) := by omega
      have hbr : bn < wr.heap.size := by have := Hb.out.size; omega
      rcases Nat.eq_zero_or_pos k with h0 | h0
      · clear hx g1 g2 g3
        generalize B x = xx at *
        have p3 : decide ((k : Int) > 0) = false := by rw [decide_eq_false_iff_not]; omega
        have p4 : decide ((0 : Int) < (k : Int)) = false := by rw [decide_eq_false_iff_not]; omega
        have p5 : ¬ ((0 : Int) < (k : Int)) := by omega
        clear h0
        go_wp2_with fail
        refine HWx.out.mono ?_
        rintro e w2 ⟨rfl, hb2⟩
        have Hb2 := Lib.hid (Hb.out.trans (hb2.mono Hb.out.size))
        have e0 := cell_then d0 hb2
        have e1 := cell_then d1 hb2
        clear hb2 d0 d1 d2 cx
        go_wp2_with fail
        go_roundw
        case rel => exact ⟨k + 1, by omega, by go_num, Hb2⟩
        case measure => simp [intOf]; omega
      · obtain ⟨y, hy⟩ : ∃ y, m.needs[k - 1]? = some y := ⟨_, List.getElem?_eq_getElem (by rw [Hnl.out]; omega)⟩
        have cy := txt_cell (HT.out.later Hb.out) hy
        have hge : Op.bytesLess (B y).toList (B x).toList = true := by
          have hl := lt_bool (B y) (B x)
          rwa [B_list, B_list, g3 y h0 hy] at hl
        have Hge := Lib.hid hge
        clear hx g1 g2 g3 hy
        generalize B x = xx at *
        generalize B y = yy at *
        have p1 : (1 : Int) ≤ (k : Int) := by omega
        have p2 : (k : Int) < (nn : Int) + 1 := by omega
        have p3 : decide ((k : Int) > 0) = true := by rw [decide_eq_true_iff]; omega
        have p4 : decide ((0 : Int) < (k : Int)) = true := by rw [decide_eq_true_iff]; omega
        have p5 : (0 : Int) < (k : Int) := by omega
        clear hge
        go_wp2_with fail
        refine HWx.out.mono ?_
        rintro e w2 ⟨rfl, hb2⟩
        have Hb2 := Lib.hid (Hb.out.trans (hb2.mono Hb.out.size))
        have e0 := cell_then d0 hb2
        have e1 := cell_then d1 hb2
        have ey := cell_then cy hb2
        have hge := Hge.out
        have hbr2 : bn < w2.heap.size := by have := hb2.size; omega
        clear hb2 d0 d1 d2 cx cy
        go_wp2_with fail
        go_roundw
        case rel => exact ⟨k + 1, by omega, by go_num, Hb2⟩
        case measure => simp [intOf]; omega
    · obtain rfl : k = nn := by omega
      go_wp2_with fail
      refine (HB.out _ Hb.out).mono ?_
      rintro e w2 ⟨rfl, hb2⟩
      have Hb2 := Lib.hid (then_bel HbA.out (Hb.out.trans (hb2.mono Hb.out.size)))
      clear hb2
      go_wp2_with fail
      go_ret
      exact ⟨rfl, Hb2.out⟩
end Go.Proofs.YthjcifokmcbaoaaGreatDoor.st
/- Package move: a set that takes a move behind all others; what it has. Conditions: fewer than 64 moves, the new ID above all others; the listed variables hold what the program's text lays. -/
namespace Go.Proofs.YthjcifokmcbaoaaGreatDoor.st
open Go.ChangeShapes Go.WideShapes Go.ChangeAt Go.RowKit gl ls

/-- A row of moves that is owned, each in blocks of its own. -/
def RowMv (M : Nat) (w : World) (v : Value) (R : List MvR) (l : List Mv) : Prop := w.ownsRow M 36 3 v R.length (rw.flat mvC R) ∧ R.length = l.length ∧ (∀ (i : Nat) (r : MvR) (m : Mv), R[i]? = some r → l[i]? = some m → Goes M w r m) ∧ ∀ r ∈ R, Tight r
theorem RowMv.new {M : Nat} {w : World} {v : Value} {R : List MvR} {l : List Mv} (h : RowMv M w v R l) : NewMv M w v R l := ⟨rw.own_new mvC_len (by decide) h.1, h.2.1, h.2.2.1⟩
/-- A set at block b. -/
def SetIs (M : Nat) (w : World) (b : Nat) (l : List Mv) : Prop := M ≤ b ∧ ∃ v R, w.heap[b]? = some (.cells #[v] 73 (0, 0)) ∧ RowMv M w v R l
theorem Goes.far {M : Nat} {w : World} {r : MvR} {m : Mv} (h : Goes M w r m) {k : Nat} {cs : Array Value} {T : TypeId} {f : Nat × Nat} (hk : w.heap[k]? = some (.cells cs T f)) (h1 : T ≠ 9) (h2 : T ≠ 42) {w' : World} (hg : w.grownBy w' (some k)) : Goes M w' r m := by
  obtain ⟨e, a, b⟩ := h
  refine ⟨e, ?_, ?_⟩
  · rcases a with a | ⟨g, c, cs', e1, e2, e3, e4, e5⟩
    · exact .inl a
    · refine .inr ⟨g, c, cs', e1, e2, e3, (hg.block g (lt_of_block e4) ?_).trans e4, e5⟩
      intro hh
      obtain rfl := Option.some.inj hh
      rw [e4] at hk
      cases hk
      exact h1 rfl
  · rcases b with a | ⟨g, c, cs', e1, e2, e3, e4, e5⟩
    · exact .inl a
    · refine .inr ⟨g, c, cs', e1, e2, e3, (hg.block g (lt_of_block e4) ?_).trans e4, e5⟩
      intro hh
      obtain rfl := Option.some.inj hh
      rw [e4] at hk
      cases hk
      exact h2 rfl
/-- Behind a row's growth its moves stand. -/
theorem goes_grown {M B : Nat} {w w' : World} {v : Value} {n : Nat} {xs : List Value} {r : MvR} {m : Mv} (h : Goes M w r m) (ho : w.ownsRow B 36 3 v n xs) (hg : w.grownBy w' v.ownBlock) : Goes M w' r m := by
  rcases ho.2 with ⟨rfl, _⟩ | ⟨g, cap, cur, rfl, _, hb, _⟩
  · exact h.later ⟨hg.os, hg.tape, hg.output, hg.size, fun k hk => hg.block k hk (by simp [Value.ownBlock])⟩
  · exact h.far hb (by decide) (by decide) hg
set_option maxHeartbeats 4000000 in
set_option maxRecDepth 100000 in
/-- slices.Insert at the end: an append. -/
theorem insert_any (M : Nat) (v : Value) (n : Nat) (xs : List Value) (g : Nat) (r : MvR) (hn : n ≤ 100000) (w : World) (hM : M ≤ w.heap.size) (hown : w.ownsRow M 36 3 v n xs) (hg : w.heap[g]? = some (.cells #[.string (B r.id), r.vn, r.vs] 36 (0, 0))) :
    Calls Tryz.prog 64 #[v, .int .i64 (n : Nat), .slice (some ⟨g, 0, none⟩) 1 1] w fun e w' => ∃ v', e = .returned v' ∧ (w'.ownsRow M 36 3 v' (n + 1) (xs ++ mvC r) ∧ w.grownBy w' v.ownBlock) := by
  obtain ⟨i0, si, sz0, sz1, sz2⟩ := info_parts infoMv
  obtain ⟨p, c, rfl, hnc⟩ : ∃ p c, v = .slice p n c ∧ n ≤ c := by
    rcases hown.2 with ⟨rfl, rfl⟩ | ⟨g, cap, cur, hv, _, _, hh, _⟩
    · exact ⟨_, _, rfl, Nat.le_refl _⟩
    · exact ⟨_, _, hv, hh⟩
  have HO := Lib.hid hown
  have Hsrc : Hid (SrcV w (.slice (some ⟨g, 0, none⟩) 1 1) 1 (mvC r)) := Lib.hid (.inr ⟨by decide, _, _, rfl, fun j u hj => by
    rw [addN, cell_in hg]
    have hl := lt_get hj
    rw [mvC_len] at hl
    match j, hl with
    | 0, _ => exact hj
    | 1, _ => exact hj
    | 2, _ => exact hj⟩)
  have Hr1 := Lib.hid (mvC_one r)
  have q0 : ((1 : Int) == 0) = false := by decide
  have q1 : ((n : Int) == (n : Int)) = true := by simp
  have q2 : (0 : Int) ≤ (n : Int) := by omega
  have q3 : (n : Int) ≤ (n : Int) := by omega
  clear hown hg
  by_cases hcn : c = n
  case' pos => subst hcn
  all_goals
    go_enter Tryz.func64, Tryz.ntmps64
    focus
      go_wp2_with (at_builtin; go_must (refine wpList_append_any rfl _ _ 22 rfl 36 i0 _ 3 64 Tryz.underlying22 si sz0 sz1 sz2 rfl (by decide) M _ _ _ (by rfl) HO.out _ 1 _ (by rfl) Hsrc.out (by rfl) Hr1.out (by omega) (by omega) (by omega) ?_))
    intro p' cap w5 hown hgrow
    go_wp2_with fail
    go_ret
    exact ⟨_, rfl, hown, hgrow⟩
theorem own_later {w w' : World} {base n size : Nat} {e : TypeId} {v : Value} {xs : List Value} (h : w.ownsRow base e size v n xs) (hb : Below w.heap.size w w') : w'.ownsRow base e size v n xs := (Upd.of_below hb []).row h (fun _ _ hn => by cases hn)
theorem RowMv.later {M : Nat} {w w' : World} {v : Value} {R : List MvR} {l : List Mv} (h : RowMv M w v R l) (hb : Below w.heap.size w w') : RowMv M w' v R l := ⟨own_later h.1 hb, h.2.1, fun i r m hr hm => (h.2.2.1 i r m hr hm).later hb, h.2.2.2⟩
theorem RowMv.ids {M : Nat} {w : World} {v : Value} {R : List MvR} {l : List Mv} (h : RowMv M w v R l) : R.map (·.id) = l.map (·.id) := by
  refine List.ext_getElem? fun i => ?_
  rw [List.getElem?_map, List.getElem?_map]
  cases hr : R[i]? with
  | none =>
    rw [List.getElem?_eq_none]
    · rfl
    · rw [← h.2.1]; exact List.getElem?_eq_none_iff.1 hr
  | some r =>
    cases hm : l[i]? with
    | none =>
      have := lt_get hr
      rw [h.2.1] at this
      rw [List.getElem?_eq_getElem this] at hm
      cases hm
    | some m =>
      show some r.id = some m.id
      rw [(h.2.2.1 i r m hr hm).1]
theorem RowMv.form {M : Nat} {w : World} {v : Value} {R : List MvR} {l : List Mv} (h : RowMv M w v R l) : ∃ p c, v = .slice p R.length c := h.new.1.form
def AscMv (l : List Mv) : Prop := (l.map (·.id)).Pairwise fun a b => ltL a b = true
set_option maxHeartbeats 4000000 in
set_option maxRecDepth 100000 in
theorem found_any (M b : Nat) (v : Value) (R : List MvR) (l : List Mv) (t : List UInt8) (hm : l.length ≤ 100000) (ha : AscMv l) (w : World) (hb : w.heap[b]? = some (.cells #[v] 73 (0, 0))) (hR : RowMv M w v R l) :
    Calls Tryz.prog 63 #[.pointer (some ⟨b, 0, none⟩), .string (B t)] w fun e w' => (∃ k is, e = .returned (.tuple #[.int .i64 (k : Nat), .bool is]) ∧ FoundAt (l.map (·.id)) t k is) ∧ Below w.heap.size w w' := by
  have hlen := hR.2.1
  obtain ⟨p, c, rfl⟩ := hR.form
  have c0 : w.cell? ⟨b, 0, none⟩ = some (.slice p R.length c) := cell_in hb
  have HS := Lib.hid (bsearch_any p R.length c R t (by omega) (by rw [hR.ids]; exact ha) w (hR.new.1.rw mvC_len))
  rw [hR.ids] at HS
  clear hR hb hlen hm
  generalize R.length = n at *
  generalize B t = tt at *
  go_enter Tryz.func63, Tryz.ntmps63
  go_wp2_with fail
  refine HS.out.mono ?_
  rintro e w1 ⟨⟨k, is, rfl, hF⟩, hb1⟩
  have HF := Lib.hid hF
  have Hb1 := Lib.hid hb1
  clear hF hb1
  go_wp2_with fail
  go_ret2
  exact ⟨⟨_, _, rfl, HF.out⟩, Hb1.out⟩
/-- All before: behind all. -/
theorem found_end {l : List Mv} {t : List UInt8} {k : Nat} {is : Bool} (h : FoundAt (l.map (·.id)) t k is) (hl : ∀ x ∈ l, ltL x.id t = true) : k = l.length ∧ is = false := by
  obtain ⟨h1, h2, h3⟩ := h
  rw [List.length_map] at h1
  have hk : k = l.length := by
    rcases Nat.lt_or_ge k l.length with hlt | hge
    · have hx : (l.map (·.id))[k]? = some l[k].id := by rw [List.getElem?_map, List.getElem?_eq_getElem hlt]; rfl
      have := (h2 k _ hx).2 (hl _ (List.getElem_mem hlt))
      omega
    · omega
  subst hk
  refine ⟨rfl, ?_⟩
  rw [h3, decide_eq_false_iff_not, List.getElem?_eq_none (by rw [List.length_map]; exact Nat.le_refl _)]
  simp
theorem new_any (w : World) : Calls Tryz.prog 22 #[] w fun e w' => e = .returned (.pointer (some ⟨w.heap.size, 0, none⟩)) ∧ SetIs w.heap.size w' w.heap.size [] ∧ Below w.heap.size w w' ∧ w.heap.size < w'.heap.size := by
  obtain ⟨wA, hA⟩ : ∃ wA, wA = w.alloc (.cells #[.slice none 0 0] 73) := ⟨_, rfl⟩
  have kA : wA.heap[w.heap.size]? = some (.cells #[.slice none 0 0] 73 (0, 0)) := by rw [hA]; exact heap_alloc_new w _
  have HS : Hid (SetIs w.heap.size wA w.heap.size []) := Lib.hid ⟨Nat.le_refl _, .slice none 0 0, [], kA, ⟨rfl, .inl ⟨rfl, rfl⟩⟩, rfl, fun i r m h => by simp at h, fun r h => by cases h⟩
  have Hb : Hid (Below w.heap.size w wA) := Lib.hid (by rw [hA]; exact (Below.refl _ _).alloc (Nat.le_refl _) _)
  have hz : w.heap.size < wA.heap.size := by rw [hA]; simp
  have HA := Lib.hid hA
  clear hA kA
  go_enter Tryz.func22, Tryz.ntmps22
  go_wp2_with fail
  go_ret
  rw [← HA.out]
  exact ⟨rfl, HS.out, Hb.out, hz⟩
theorem own_form {w : World} {v : Value} {n : Nat} {xs : List Value} {e : TypeId} {base size : Nat} (h : w.ownsRow base e size v n xs) : ∃ p c, v = .slice p n c := by
  rcases h.2 with ⟨rfl, rfl⟩ | ⟨g, cap, cur, hv, _⟩
  · exact ⟨_, _, rfl⟩
  · exact ⟨_, _, hv⟩
theorem set_grown {w w' : World} {b M n : Nat} {v : Value} {xs : List Value} {cs : Array Value} (hs : w.heap[b]? = some (.cells cs 73 (0, 0))) (ho : w.ownsRow M 36 3 v n xs) (hg : w.grownBy w' v.ownBlock) : w'.heap[b]? = some (.cells cs 73 (0, 0)) := by
  refine (hg.block b (lt_of_block hs) ?_).trans hs
  intro hh
  rcases ho.2 with ⟨rfl, _⟩ | ⟨g, cap, cur, rfl, _, hb, _⟩
  · cases hh
  · obtain rfl := Option.some.inj hh
    rw [hb] at hs
    cases hs
theorem grown_set (w : World) (b o : Nat) (u : Value) : w.grownBy (w.setCell ⟨b, o, none⟩ u) (some b) :=
  ⟨rfl, rfl, rfl, by simp [World.setCell], fun k _ hn => Below.heap_setCell w _ u k (fun e => hn (by rw [e]))⟩
theorem own_set {w : World} {b M n size : Nat} {v : Value} {xs : List Value} {cs : Array Value} (ho : w.ownsRow M 36 size v n xs) (hs : w.heap[b]? = some (.cells cs 73 (0, 0))) (o : Nat) (u : Value) : (w.setCell ⟨b, o, none⟩ u).ownsRow M 36 size v n xs := by
  refine ⟨ho.1, ?_⟩
  rcases ho.2 with h | ⟨g, cap, cur, e, h1, h2, h3⟩
  · exact .inl h
  · exact .inr ⟨g, cap, cur, e, h1, heap_set_ne h2 u (ne_of_types h2 hs (by decide)), h3⟩
theorem egOwn (args : Array Value) (w : World) : (callFunc 65 args).run Tryz.prog w = .ok (.enter 65 args) w := enters Tryz.func65 (by kernel_rfl) (by kernel_rfl) args w
theorem egIns (args : Array Value) (w : World) : (callFunc 64 args).run Tryz.prog w = .ok (.enter 64 args) w := enters Tryz.func64 (by kernel_rfl) (by kernel_rfl) args w
theorem own_anyE (id : List UInt8) (pn ps : Option Addr) (nn cn ns cs : Nat) (needs : List (List UInt8)) (steps : List Sp) (hn : nn ≤ 4294967295) (hs : ns ≤ 4294967295) (w : World) (h1 : Txt w (.slice pn nn cn) needs) (h2 : Sps w (.slice ps ns cs) steps) :
    Calls Tryz.prog 65 #[.agg #[.string (B id), .slice pn nn cn, .slice ps ns cs]] w fun e w' => ∃ v, e = .returned v ∧ ((∃ r : MvR, v = .agg #[.string (B r.id), r.vn, r.vs] ∧ Goes w.heap.size w' r ⟨id, needs, steps⟩ ∧ Tight r) ∧ Below w.heap.size w w') :=
  (own_any id pn ps nn cn ns cs needs steps hn hs w h1 h2).mono fun _ _ ⟨⟨r, e, h⟩, hb⟩ => ⟨_, e, ⟨r, rfl, h⟩, hb⟩
set_option maxHeartbeats 4000000 in
set_option maxRecDepth 100000 in
theorem add_any (M b : Nat) (l : List Mv) (m : Mv) (hg : GoodMv m) (ha : AscMv l) (hl : ∀ x ∈ l, ltL x.id m.id = true) (hn : l.length < 64) (pn ps : Option Addr) (nn cn ns cs : Nat) (w : World) (hM : M ≤ w.heap.size) (h1 : Txt w (.slice pn nn cn) m.needs) (h2 : Sps w (.slice ps ns cs) m.steps) (hS : Slo w) (hset : SetIs M w b l) :
    Calls Tryz.prog 23 #[.pointer (some ⟨b, 0, none⟩), .agg #[.string (B m.id), .slice pn nn cn, .slice ps ns cs]] w fun e w' => e = .returned (.int .i64 0) ∧ SetIs M w' b (l ++ [m]) ∧ Below M w w' := by
  obtain ⟨hMb, v, R, hblk, hrow⟩ := hset
  obtain ⟨wA, hA⟩ : ∃ wA, wA = w.alloc (.cells #[.string (B m.id), .slice pn nn cn, .slice ps ns cs] 36) := ⟨_, rfl⟩
  have kA : wA.heap[w.heap.size]? = some (.cells #[.string (B m.id), .slice pn nn cn, .slice ps ns cs] 36 (0, 0)) := by rw [hA]; exact heap_alloc_new w _
  have zA : wA.heap.size = w.heap.size + 1 := by rw [hA]; simp
  have hbA : Below w.heap.size w wA := by rw [hA]; exact (Below.refl _ _).alloc (Nat.le_refl _) _
  have hnn : nn ≤ 8 := by rw [← h1.ptr.1]; exact hg.few
  have hns : ns ≤ 16 := by rw [← h2.ptr.1]; exact hg.most
  have HR := Lib.hid (rightMv_any m hg pn ps nn cn ns cs wA (h1.later hbA) (h2.later hbA) (hS.later hbA))
  have hrA := hrow.later hbA
  have hkA := (hbA.block b (lt_of_block hblk)).trans hblk
  have HF := Lib.hid fun (W : World) (hb : Below wA.heap.size wA W) => found_any M b v R l m.id (by omega) ha W ((hb.block b (lt_of_block hkA)).trans hkA) (hrA.later hb)
  have HO := Lib.hid fun (W : World) (hb : Below wA.heap.size wA W) => own_anyE m.id pn ps nn cn ns cs m.needs m.steps (by omega) (by omega) W ((h1.later hbA).later hb) ((h2.later hbA).later hb)
  have Hrow := Lib.hid hrA
  have Hset := Lib.hid hkA
  have HkA := Lib.hid kA
  have HA := Lib.hid hA
  have HbA := Lib.hid hbA
  have Hl := Lib.hid hl
  have hRl : R.length < 64 := by rw [hrow.2.1]; exact hn
  have HRl := Lib.hid hrow.2.1
  have c0 : wA.cell? ⟨w.heap.size, 0, none⟩ = some (.string (B m.id)) := cell_in kA
  have c1 : wA.cell? ⟨w.heap.size, 1, none⟩ = some (.slice pn nn cn) := cell_in kA
  have c2 : wA.cell? ⟨w.heap.size, 2, none⟩ = some (.slice ps ns cs) := cell_in kA
  obtain ⟨p, c, rfl⟩ := hrow.form
  clear h1 h2 hS hg ha hl hA kA hbA hrow hblk hrA hkA
  generalize hnm : B m.id = nm at *
  have HNm := Lib.hid hnm
  clear hnm
  go_enter Tryz.func23, Tryz.ntmps23
  go_wp2_with fail
  rw [← HA.out]
  refine HR.out.mono ?_
  rintro e w1 ⟨rfl, hb1⟩
  have Hb1 := Lib.hid hb1
  have d0 := cell_then c0 hb1
  clear hb1 c0 c1 c2
  go_wp2_with fail
  refine (HF.out _ Hb1.out).mono ?_
  rintro e w2 ⟨⟨k, is, rfl, hF⟩, hb2⟩
  obtain ⟨rfl, rfl⟩ := found_end hF Hl.out
  have Hb2 := Lib.hid (Hb1.out.trans (hb2.mono Hb1.out.size))
  have hk2 := (Hb2.out.block _ (lt_of_block HkA.out)).trans HkA.out
  have e0 : w2.cell? ⟨w.heap.size, 0, none⟩ = some (.string nm) := cell_in hk2
  have e1 : w2.cell? ⟨w.heap.size, 1, none⟩ = some (.slice pn nn cn) := cell_in hk2
  have e2 : w2.cell? ⟨w.heap.size, 2, none⟩ = some (.slice ps ns cs) := cell_in hk2
  have hs2 := (Hb2.out.block _ (lt_of_block Hset.out)).trans Hset.out
  have f0 : w2.cell? ⟨b, 0, none⟩ = some (.slice p R.length c) := cell_in hs2
  have g0 : w2.frozen? ⟨b, 0, none⟩ = false := free_in hs2
  have HRow2 := Lib.hid (Hrow.out.later Hb2.out)
  have HS2 := Lib.hid hs2
  have q1 : ((R.length : Int) == 64) = false := by simp; omega
  have q2 : (((l.length : Nat) : Int) == 64) = false := by simp; omega
  clear hF hb2 hk2 hs2 d0
  go_wp2_with fail
  rw [← HRl.out]
  go_region_law
    (first
      | (refine step_callE (by rfl) 65 _ _ (by rfl) egOwn _ (by rfl) _ (HO.out _ Hb2.out.drew) ?_; rintro v w3 ⟨⟨r, rfl, hgo, hti⟩, hb3⟩; have HG3 := Lib.hid hgo; have HT3 := Lib.hid hti; have hb23 := (Below.refl w2.heap.size w2).drew.trans hb3; have HB23 := Lib.hid hb23; have f3 := cell_then f0 hb23; obtain ⟨w4, hw4⟩ : ∃ w4, w4 = w3.alloc (.cells #[.string (B r.id), r.vn, r.vs] 36) := ⟨_, rfl⟩; have hb24 : Below w2.heap.size w2 w4 := by { rw [hw4]; exact hb23.alloc hb23.size _ }; have HB24 := Lib.hid hb24; have HI := Lib.hid (insert_any M (.slice p R.length c) R.length (rw.flat mvC R) w3.heap.size r (by omega) w4 (by have := hb24.size; have := Hb2.out.size; omega) (HRow2.out.later hb24).1 (by rw [hw4]; exact heap_alloc_new w3 _)); rw [hw4] at HI; have f4 := cell_then f0 hb24; rw [hw4] at f4; clear hgo hti hb3 hb23 hb24)
      | (refine step_callE (by rfl) 64 _ _ (by rfl) egIns _ (by rfl) _ HI.out ?_; rintro v w5 ⟨hown5, hg5⟩; obtain ⟨p5, c5, rfl⟩ := own_form hown5; rw [← hw4] at hg5; have hs4 := (HB24.out.block _ (lt_of_block HS2.out)).trans HS2.out; have hs5 := set_grown hs4 (HRow2.out.later HB24.out).1 hg5; have f5 := cell_in (o := 0) hs5; simp only [List.getElem?_toArray, List.getElem?_cons_zero] at f5; have g5 : w5.frozen? ⟨b, 0, none⟩ = false := free_in hs5; have HS5 := Lib.hid hs5; have HOwn5 := Lib.hid hown5; have HG5 := Lib.hid hg5; have Hw4 := Lib.hid hw4; clear hown5 hg5 hs4 hs5)
      | fail)
  all_goals
    go_wp2_with fail
    go_ret
    have hR4 := HRow2.out.later HB24.out
    have hs6 : (w5.setCell ⟨b, 0, none⟩ (.slice p5 (R.length + 1) c5)).heap[b]? = some (.cells #[.slice p5 (R.length + 1) c5] 73 (0, 0)) := heap_set (o := 0) HS5.out (.slice p5 (R.length + 1) c5)
    have hgo : ∀ (r' : MvR) (m' : Mv), Goes M w4 r' m' → Goes M (w5.setCell ⟨b, 0, none⟩ (.slice p5 (R.length + 1) c5)) r' m' := fun r' m' h => (goes_grown h hR4.1 HG5.out).far HS5.out (by decide) (by decide) (grown_set _ _ _ _)
    have hb34 : Below w3.heap.size w3 w4 := by rw [Hw4.out]; exact (Below.refl _ _).alloc (Nat.le_refl _) _
    have hgr : Goes M w4 r m := (HG3.out.mono (by have := Hb2.out.size; show M ≤ w2.heap.size; omega)).later hb34
    have hbM : Below M w w4 := (HbA.out.mono hM).trans ((Hb2.out.mono (by omega)).trans (HB24.out.mono (by have := Hb2.out.size; omega)))
    refine ⟨rfl, ⟨hMb, .slice p5 (R.length + 1) c5, R ++ [r], hs6, ?_, ?_, ?_, ?_⟩, ?_⟩
    · rw [rw.flat_snoc, List.length_append]
      exact own_set HOwn5.out HS5.out _ _
    · rw [List.length_append, List.length_append, HRl.out]
      rfl
    · intro i r' m' hr' hm'
      by_cases hi : i < R.length
      · rw [List.getElem?_append_left hi] at hr'
        rw [List.getElem?_append_left (by rw [← HRl.out]; exact hi)] at hm'
        exact hgo r' m' (hR4.2.2.1 i r' m' hr' hm')
      · rw [List.getElem?_append_right (by omega)] at hr'
        rw [List.getElem?_append_right (by rw [← HRl.out]; omega), ← HRl.out] at hm'
        have h0 := lt_get hr'
        simp only [List.length_singleton] at h0
        rw [show i - R.length = 0 by omega] at hr' hm'
        obtain rfl := Option.some.inj hr'
        obtain rfl := Option.some.inj hm'
        exact hgo _ _ hgr
    · intro r' hr'
      rcases List.mem_append.1 hr' with h | h
      · exact hR4.2.2.2 r' h
      · obtain rfl := List.mem_singleton.1 h
        exact HT3.out
    · exact (hbM.grown HG5.out (by have := HB24.out.size; have := Hb2.out.size; omega) (fun k hk => (hR4.1.lt k hk).1)).setCell hMb _
end Go.Proofs.YthjcifokmcbaoaaGreatDoor.st
/- Package move: what a set has, all and one of an ID. Conditions: at most 1000 moves. -/
namespace Go.Proofs.YthjcifokmcbaoaaGreatDoor.st
open Go.ChangeShapes Go.WideShapes Go.ChangeAt Go.RowKit gl ls

theorem RowMv.push {M : Nat} {w w' : World} {v v' : Value} {R : List MvR} {l : List Mv} {r : MvR} {m : Mv} (h : RowMv M w v R l) (hg : Goes M w r m) (ht : Tight r) (ho : w'.ownsRow M 36 3 v' (R.length + 1) (rw.flat mvC R ++ mvC r)) (hgr : w.grownBy w' v.ownBlock) : RowMv M w' v' (R ++ [r]) (l ++ [m]) := by
  refine ⟨?_, ?_, ?_, ?_⟩
  · rw [rw.flat_snoc, List.length_append]
    exact ho
  · rw [List.length_append, List.length_append, h.2.1]
    rfl
  · intro i r' m' hr' hm'
    by_cases hi : i < R.length
    · rw [List.getElem?_append_left hi] at hr'
      rw [List.getElem?_append_left (by rw [← h.2.1]; exact hi)] at hm'
      exact goes_grown (h.2.2.1 i r' m' hr' hm') h.1 hgr
    · rw [List.getElem?_append_right (by omega)] at hr'
      rw [List.getElem?_append_right (by rw [← h.2.1]; omega), ← h.2.1] at hm'
      have h0 := lt_get hr'
      simp only [List.length_singleton] at h0
      rw [show i - R.length = 0 by omega] at hr' hm'
      obtain rfl := Option.some.inj hr'
      obtain rfl := Option.some.inj hm'
      exact goes_grown hg h.1 hgr
  · intro r' hr'
    rcases List.mem_append.1 hr' with h1 | h1
    · exact h.2.2.2 r' h1
    · obtain rfl := List.mem_singleton.1 h1
      exact ht
theorem makeMv (n : Nat) (hn : n ≤ 100000) (w : World) : (Instr.makeSlice 22 (.int .i64 0) (.int .i64 (n : Nat))).run Tryz.prog w = .ok (.slice (some ⟨w.heap.size, 0, none⟩) 0 n) (w.alloc (.cells (madeCells (Value.cells (.agg #[.string .empty, .slice none 0 0, .slice none 0 0])) (n * 3)) 36)) := by
  obtain ⟨i, hi, he⟩ := Option.map_eq_some_iff.1 infoMv
  simp only [Prod.mk.injEq] at he
  obtain ⟨hz, h1, h8⟩ := he
  have h := run_make (P := Tryz.prog) w 22 36 i _ Tryz.underlying22 hi hz .i64 .i64 0 (n : Int) (by omega) (by omega) (by rw [h8]; omega) (by omega)
  rw [h, h1, show ((n : Nat) : Int).toNat = n by omega]
  rfl
theorem lit_src {w : World} {r : MvR} {g : Nat} (hg : w.heap[g]? = some (.cells #[.string (B r.id), r.vn, r.vs] 36 (0, 0))) : SrcV w (.slice (some ⟨g, 0, none⟩) 1 1) 1 (mvC r) := .inr ⟨by decide, _, _, rfl, fun j u hj => by
    rw [addN, cell_in hg]
    have hl := lt_get hj
    rw [mvC_len] at hl
    match j, hl with
    | 0, _ => exact hj
    | 1, _ => exact hj
    | 2, _ => exact hj⟩
theorem goes_txt {M : Nat} {w : World} {r : MvR} {m : Mv} (h : Goes M w r m) : Txt w (.slice r.pn r.nn r.cn) m.needs ∧ Sps w (.slice r.ps r.ns r.cs) m.steps := ⟨h.2.1.rw txC_len, h.2.2.rw spC_len⟩
set_option maxHeartbeats 4000000 in
set_option maxRecDepth 100000 in
theorem all_any (M b : Nat) (l : List Mv) (hl : l.length ≤ 1000) (hlow : Low l) (w : World) (hset : SetIs M w b l) :
    Calls Tryz.prog 24 #[.pointer (some ⟨b, 0, none⟩)] w fun e w' => (∃ v R, e = .returned v ∧ RowMv w.heap.size w' v R l) ∧ Below w.heap.size w w' := by
  obtain ⟨hMb, v, R, hblk, hrow⟩ := hset
  obtain ⟨p, c, rfl⟩ := hrow.form
  have hRn := hrow.2.1
  have hptr := (hrow.new.1.rw mvC_len).ptr.2.2
  have c0 : w.cell? ⟨b, 0, none⟩ = some (.slice p R.length c) := cell_in hblk
  have hmk := makeMv R.length (by omega) w
  obtain ⟨i0, si, sz0, sz1, sz2⟩ := info_parts infoMv
  obtain ⟨wA, hA⟩ : ∃ wA, wA = w.alloc (.cells (madeCells (Value.cells (.agg #[.string .empty, .slice none 0 0, .slice none 0 0])) (R.length * 3)) 36) := ⟨_, rfl⟩
  have hown : wA.ownsRow w.heap.size 36 3 (.slice (some ⟨w.heap.size, 0, none⟩) 0 R.length) 0 [] := by rw [hA]; exact World.ownsRow_made w _ R.length (Nat.le_refl _) (by unfold maxLen; omega) (by rw [size_madeCells])
  have hbA : Below w.heap.size w wA := by rw [hA]; exact (Below.refl _ _).alloc (Nat.le_refl _) _
  have zA : wA.heap.size = w.heap.size + 1 := by rw [hA]; simp
  have c1 : wA.cell? ⟨b, 0, none⟩ = some (.slice p R.length c) := cell_then c0 hbA
  have HR := Lib.hid hrow
  have HRn := Lib.hid hRn
  have HP := Lib.hid hptr
  have HOwn : Hid (RowMv w.heap.size wA (.slice (some ⟨w.heap.size, 0, none⟩) 0 R.length) [] []) := Lib.hid ⟨hown, rfl, fun i r m h => by simp at h, fun r h => by cases h⟩
  have HbA := Lib.hid hbA
  have HA := Lib.hid hA
  have Hlow := Lib.hid hlow
  have hn1000 : R.length ≤ 1000 := by omega
  rw [← hA] at hmk
  clear hrow hblk hRn hptr hown hbA hA hlow hl
  go_enter Tryz.func24, Tryz.ntmps24
  go_wp2_with fail
  clear hmk c0 c1
  go_loopw [3, 17] (fun ov i wr => ∃ (j : Nat) (v : Value) (R' : List MvR), j ≤ R.length ∧ i = .int .i64 j ∧ v = ov ∧ Hid (R'.length = j) ∧ Hid (RowMv w.heap.size wr v R' (l.take j)) ∧ Hid (Below w.heap.size w wr)) (fun _ i _ => R.length - (intOf i).toNat)
  case atStart => exact ⟨0, _, [], by omega, rfl, rfl, Lib.hid rfl, HOwn, HbA⟩
  case round =>
    clear HOwn
    obtain ⟨j, v, R', hj, rfl, rfl, HR'n, HRow, Hb⟩ := hrel
    have hzr := Hb.out.size
    by_cases hlt : j < R.length
    · obtain ⟨bp, op, rfl, hbp⟩ := HP.out (by omega)
      obtain ⟨x, hx⟩ : ∃ x, R[j]? = some x := ⟨_, List.getElem?_eq_getElem hlt⟩
      obtain ⟨m, hm⟩ : ∃ m, l[j]? = some m := ⟨_, List.getElem?_eq_getElem (by rw [← HRn.out]; exact hlt)⟩
      have hrr := HR.out.later Hb.out
      obtain ⟨k0, k1, k2⟩ := mv_cells (hrr.new.1.rw mvC_len) hx
      have hg := hrr.2.2.1 j x m hx hm
      obtain ⟨tx, sp⟩ := goes_txt hg
      rw [hg.1] at k0
      have hnl := tx.ptr.1
      have hsl := sp.ptr.1
      obtain ⟨lo1, lo2⟩ := Hlow.out m (List.mem_of_getElem? hm)
      obtain ⟨xi, pn, nn, cn, ps, ns, cs⟩ := x
      simp only [MvR.vn, MvR.vs] at k1 k2 tx sp hnl hsl
      obtain ⟨wB, hB⟩ : ∃ wB, wB = wr.alloc (.cells #[.string (B m.id), .slice pn nn cn, .slice ps ns cs] 36) := ⟨_, rfl⟩
      have hbB : Below wr.heap.size wr wB := by rw [hB]; exact (Below.refl _ _).alloc (Nat.le_refl _) _
      have kB : wB.heap[wr.heap.size]? = some (.cells #[.string (B m.id), .slice pn nn cn, .slice ps ns cs] 36 (0, 0)) := by rw [hB]; exact heap_alloc_new wr _
      have b0 : wB.cell? ⟨wr.heap.size, 0, none⟩ = some (.string (B m.id)) := cell_in kB
      have b1 : wB.cell? ⟨wr.heap.size, 1, none⟩ = some (.slice pn nn cn) := cell_in kB
      have b2 : wB.cell? ⟨wr.heap.size, 2, none⟩ = some (.slice ps ns cs) := cell_in kB
      have HO := Lib.hid (own_any m.id pn ps nn cn ns cs m.needs m.steps (by omega) (by omega) wB (tx.later hbB) (sp.later hbB))
      have HB := Lib.hid hB
      have HbB := Lib.hid hbB
      have Hm := Lib.hid hm
      have hbr : bp < wr.heap.size := by omega
      have hji : (j : Int) < (R.length : Int) := by omega
      have hj5 : (0 : Int) ≤ (j : Int) := by omega
      clear hrr hg tx sp hnl hsl lo1 lo2 hx hm hB hbB kB
      generalize hnm : B m.id = nm at *
      have HNm := Lib.hid hnm
      clear hnm
      go_wp2_with fail
      rw [← HB.out]
      refine HO.out.mono ?_
      rintro e w3 ⟨⟨r, rfl, hgo, hti⟩, hb3⟩
      have hb4 : Below w3.heap.size w3 (w3.alloc (.cells #[.string (B r.id), r.vn, r.vs] 36)) := (Below.refl _ _).alloc (Nat.le_refl _) _
      have hbr4 := then_bel (then_bel HbB.out hb3) hb4
      have HRow4 := Lib.hid (HRow.out.later hbr4)
      have HOw := Lib.hid HRow4.out.1
      rw [HR'n.out] at HOw
      have Hsrc := Lib.hid (lit_src (r := r) (heap_alloc_new w3 (.cells #[.string (B r.id), r.vn, r.vs] 36)))
      have Hr1 := Lib.hid (mvC_one r)
      have HG4 := Lib.hid ((hgo.later hb4).mono (M' := w.heap.size) (by have := HbB.out.size; omega))
      have HT4 := Lib.hid hti
      have Hb4 := Lib.hid (Hb.out.trans (hbr4.mono Hb.out.size))
      have hz4 := Hb4.out.size
      have HR'l := Lib.hid HR'n.out
      clear hgo hti hb3 hb4 hbr4 b0 b1 b2 k0 k1 k2
      focus
        go_wp2_with (at_builtin; go_must (refine wpList_append_any rfl _ _ 22 rfl 36 i0 _ 3 64 Tryz.underlying22 si sz0 sz1 sz2 rfl (by decide) w.heap.size _ j _ (by rfl) HOw.out _ 1 _ (by rfl) Hsrc.out (by rfl) Hr1.out (by omega) (by omega) (by omega) ?_))
      intro p' cap w5 hown hgrow
      have HB5 := Lib.hid (below_grown_own Hb4.out HOw.out hgrow hz4)
      have HR5 : Hid (RowMv w.heap.size w5 (.slice p' (j + 1) cap) (R' ++ [r]) (l.take (j + 1))) := Lib.hid (by
        rw [take_at Hm.out]
        have h := HRow4.out.push (m := m) HG4.out HT4.out (by rw [HR'l.out]; exact hown) hgrow
        exact h)
      have HL5 : Hid ((R' ++ [r]).length = j + 1) := Lib.hid (by rw [List.length_append, HR'l.out]; rfl)
      clear hown hgrow
      go_wp2_with fail
      go_roundw
      case rel => exact ⟨j + 1, _, R' ++ [r], by omega, by go_num, rfl, HL5, HR5, HB5⟩
      case measure => simp [intOf]; omega
    · obtain rfl : j = R.length := by omega
      go_wp2_with fail
      go_ret
      have h := HRow.out
      rw [List.take_of_length_le (by rw [← HRn.out]; exact Nat.le_refl _)] at h
      exact ⟨⟨_, _, rfl, h⟩, Hb.out⟩
theorem results_cell_row2 {P : Program} {fn : Func} {p u : Tmp} {ty : TypeId} (h : fn.results = #[.cell p ty, .tmp u]) (tmps : Array Value) (w : World) (g : Nat) (t : TypeId) (cs : Array Value) (fr : Nat × Nat) (d : TypeDesc)
    (hp : tmps.getD p undef = .pointer (some ⟨g, 0, none⟩)) (hg : w.heap[g]? = some (.cells cs t fr))
    (hu : P.underlying ty = some d) (hd : (match d with | .struct _ | .array _ _ => true | _ => false) = true) (hi : (P.info? ty).map (·.size) = some cs.size) :
    (results fn tmps).run P w = .ok (.tuple #[.agg cs, tmps.getD u undef]) w := by
  have hp' : tmps[p]?.getD undef = .pointer (some ⟨g, 0, none⟩) := by simpa using hp
  simp [results, h, hp', asAddr, run_loadVar_row w g t ty cs fr d hg hu hd hi]
set_option maxHeartbeats 4000000 in
set_option maxRecDepth 100000 in
theorem find_any (M b : Nat) (l : List Mv) (t : List UInt8) (hl : l.length ≤ 1000) (ha : AscMv l) (hlow : Low l) (w : World) (hset : SetIs M w b l) :
    Calls Tryz.prog 47 #[.pointer (some ⟨b, 0, none⟩), .string (B t)] w fun e w' => (∃ k is, FoundAt (l.map (·.id)) t k is ∧ (is = false → e = .returned (.tuple #[.agg #[.string ⟨#[]⟩, .slice none 0 0, .slice none 0 0], .bool false])) ∧
      (is = true → ∃ r m, l[k]? = some m ∧ e = .returned (.tuple #[.agg #[.string (B r.id), r.vn, r.vs], .bool true]) ∧ Goes w.heap.size w' r m ∧ Tight r)) ∧ Below w.heap.size w w' := by
  obtain ⟨hMb, v, R, hblk, hrow⟩ := hset
  obtain ⟨wA, hA⟩ : ∃ wA, wA = w.alloc (.cells #[.string ⟨#[]⟩, .slice none 0 0, .slice none 0 0] 36) := ⟨_, rfl⟩
  have kA : wA.heap[w.heap.size]? = some (.cells #[.string ⟨#[]⟩, .slice none 0 0, .slice none 0 0] 36 (0, 0)) := by rw [hA]; exact heap_alloc_new w _
  have zA : wA.heap.size = w.heap.size + 1 := by rw [hA]; simp
  have hbA : Below w.heap.size w wA := by rw [hA]; exact (Below.refl _ _).alloc (Nat.le_refl _) _
  have hF := found_any M b v R l t (by omega) ha wA ((hbA.block b (lt_of_block hblk)).trans hblk) (hrow.later hbA)
  obtain ⟨p, c, rfl⟩ := hrow.form
  have HF := Lib.hid hF
  have HR := Lib.hid hrow
  have HRn := Lib.hid hrow.2.1
  have HP := Lib.hid (hrow.new.1.rw mvC_len).ptr.2.2
  have HkA := Lib.hid kA
  have HbA := Lib.hid hbA
  have HA := Lib.hid hA
  have Hlow := Lib.hid hlow
  have Hblk := Lib.hid hblk
  have hl1 : R.length ≤ 1000 := by rw [hrow.2.1]; exact hl
  clear kA hbA hA hF hrow hblk hlow ha hl
  generalize B t = tt at *
  go_enter Tryz.func47, Tryz.ntmps47
  go_wp2_with fail
  rw [← HA.out]
  refine HF.out.mono ?_
  rintro e w1 ⟨⟨k, is, rfl, hFo⟩, hb1⟩
  have HFo := Lib.hid hFo
  have Hb1 := Lib.hid (then_bel HbA.out hb1)
  have hk1 := (hb1.block _ (lt_of_block HkA.out)).trans HkA.out
  have a0 : w1.cell? ⟨w.heap.size, 0, none⟩ = some (.string ⟨#[]⟩) := cell_in hk1
  have a1 : w1.cell? ⟨w.heap.size, 1, none⟩ = some (.slice none 0 0) := cell_in hk1
  have a2 : w1.cell? ⟨w.heap.size, 2, none⟩ = some (.slice none 0 0) := cell_in hk1
  have b0 : w1.frozen? ⟨w.heap.size, 0, none⟩ = false := free_in hk1
  have b1 : w1.frozen? ⟨w.heap.size, 1, none⟩ = false := free_in hk1
  have b2 : w1.frozen? ⟨w.heap.size, 2, none⟩ = false := free_in hk1
  have Hk1 := Lib.hid hk1
  cases is with
  | false =>
    have Hk2 : Hid (_ = some (Obj.cells #[.string ⟨#[]⟩, .slice none 0 0, .slice none 0 0] 36 (0, 0))) := Lib.hid (heap_set (o := 2) (heap_set (o := 1) (heap_set (o := 0) hk1 (.string ⟨#[]⟩)) (.slice none 0 0)) (.slice none 0 0))
    clear hFo hb1 hk1
    go_wp2_with fail
    refine bodyPost_ret (results_cell_row2 rfl _ _ w.heap.size 36 _ _ _ rfl Hk2.out Tryz.underlying36 rfl (by kernel_rfl)) rfl ?_
    refine ⟨⟨k, false, HFo.out, fun _ => rfl, fun h => by cases h⟩, ?_⟩
    repeat (refine Below.setCell ?_ (by simp only; omega) _)
    exact Hb1.out
  | true =>
    have hkl : (l.map (·.id))[k]? = some t := of_decide_eq_true hFo.2.2.symm
    obtain ⟨m, hm⟩ : ∃ m, l[k]? = some m := by
      rw [List.getElem?_map] at hkl
      cases h : l[k]? with
      | none => rw [h] at hkl; cases hkl
      | some m => exact ⟨m, rfl⟩
    have hkR : k < R.length := by rw [HRn.out]; exact lt_get hm
    obtain ⟨bp, op, rfl, hbp⟩ := HP.out (by omega)
    obtain ⟨x, hx⟩ : ∃ x, R[k]? = some x := ⟨_, List.getElem?_eq_getElem hkR⟩
    have hrr := HR.out.later Hb1.out
    obtain ⟨k0, k1, k2⟩ := mv_cells (hrr.new.1.rw mvC_len) hx
    have hg := hrr.2.2.1 k x m hx hm
    obtain ⟨tx, sp⟩ := goes_txt hg
    rw [hg.1] at k0
    have hnl := tx.ptr.1
    have hsl := sp.ptr.1
    obtain ⟨lo1, lo2⟩ := Hlow.out m (List.mem_of_getElem? hm)
    obtain ⟨xi, pn, nn, cn, ps, ns, cs⟩ := x
    simp only [MvR.vn, MvR.vs] at k1 k2 tx sp hnl hsl
    have HO := Lib.hid (own_any m.id pn ps nn cn ns cs m.needs m.steps (by omega) (by omega) w1 tx sp)
    have c0 : w1.cell? ⟨b, 0, none⟩ = some (.slice (some ⟨bp, op, none⟩) R.length c) := cell_in ((Hb1.out.block b (lt_of_block Hblk.out)).trans Hblk.out)
    have Hm := Lib.hid hm
    have hbr : bp < w1.heap.size := by have := Hb1.out.size; omega
    have hki : (k : Int) < (R.length : Int) := by omega
    have hk5 : (0 : Int) ≤ (k : Int) := by omega
    clear hFo hb1 hk1 hrr hg tx sp hnl hsl lo1 lo2 hx hm hkl
    generalize B m.id = nm at *
    go_wp2_with fail
    refine HO.out.mono ?_
    rintro e w2 ⟨⟨r, rfl, hgo, hti⟩, hb2⟩
    have hk2 := (hb2.block _ (lt_of_block Hk1.out)).trans Hk1.out
    have d0 : w2.cell? ⟨w.heap.size, 0, none⟩ = some (.string ⟨#[]⟩) := cell_in hk2
    have d1 : w2.cell? ⟨w.heap.size, 1, none⟩ = some (.slice none 0 0) := cell_in hk2
    have d2 : w2.cell? ⟨w.heap.size, 2, none⟩ = some (.slice none 0 0) := cell_in hk2
    have e0 : w2.frozen? ⟨w.heap.size, 0, none⟩ = false := free_in hk2
    have e1 : w2.frozen? ⟨w.heap.size, 1, none⟩ = false := free_in hk2
    have e2 : w2.frozen? ⟨w.heap.size, 2, none⟩ = false := free_in hk2
    have Hk2 : Hid (_ = some (Obj.cells #[.string (B r.id), r.vn, r.vs] 36 (0, 0))) := Lib.hid (heap_set (o := 2) (heap_set (o := 1) (heap_set (o := 0) hk2 (.string (B r.id))) r.vn) r.vs)
    have Hb2 := Lib.hid (then_bel Hb1.out hb2)
    have HG := Lib.hid hgo
    have HT := Lib.hid hti
    have hz1 := Hb1.out.size
    have hz1' : w.heap.size < w1.heap.size := lt_of_block Hk1.out
    clear hk2 hb2 hgo hti a0 a1 a2 b0 b1 b2 c0 k0 k1 k2
    go_wp2_with fail
    refine bodyPost_ret (results_cell_row2 rfl _ _ w.heap.size 36 _ _ _ rfl Hk2.out Tryz.underlying36 rfl (by kernel_rfl)) rfl ?_
    obtain ⟨g1, g2, g3⟩ := HG.out
    refine ⟨⟨k, true, HFo.out, fun h => (by cases h), fun _ => ⟨r, m, Hm.out, rfl, ⟨g1, rw.NewRw.mono (M := w1.heap.size) ?_ (by omega), rw.NewRw.mono (M := w1.heap.size) ?_ (by omega)⟩, HT.out⟩⟩, ?_⟩
    · repeat (refine new_far ?_ _ (by simp only; omega))
      exact g2
    · repeat (refine new_far ?_ _ (by simp only; omega))
      exact g3
    · repeat (refine Below.setCell ?_ (by simp only; omega) _)
      exact Hb2.out
end Go.Proofs.YthjcifokmcbaoaaGreatDoor.st
/- Laws on memory for any program: an append to a slice that lies at the head of a block, with room behind it or none. No program in sight; no conditions beside those stated. -/
namespace Go.Proofs.YthjcifokmcbaoaaGreatDoor
open Go.RowKit ls
/-- A slice at the head of a block from M on: n elements of k cells, these cells. -/
def Blk (T : TypeId) (k M : Nat) (w : World) (v : Value) (n : Nat) (xs : List Value) : Prop :=
  xs.length = n * k ∧ ((v = .slice none 0 0 ∧ n = 0) ∨ ∃ g c cs, v = .slice (some ⟨g, 0, none⟩) n c ∧ n ≤ c ∧ M ≤ g ∧ w.heap[g]? = some (.cells cs T (0, 0)) ∧ c * k ≤ cs.size ∧ cs.toList.take (n * k) = xs)
/-- Each block of cells is one still, of as many cells. -/
def Sh (w w' : World) : Prop := ∀ (g : Nat) (cs : Array Value) (T : TypeId), w.heap[g]? = some (.cells cs T (0, 0)) → ∃ cs', w'.heap[g]? = some (.cells cs' T (0, 0)) ∧ cs'.size = cs.size
theorem Sh.refl (w : World) : Sh w w := fun _ cs _ h => ⟨cs, h, rfl⟩
theorem Sh.trans {a b c : World} (h : Sh a b) (h2 : Sh b c) : Sh a c := fun g cs T hg => by
  obtain ⟨c1, e1, e2⟩ := h g cs T hg
  obtain ⟨c2, e3, e4⟩ := h2 g c1 T e1
  exact ⟨c2, e3, e4.trans e2⟩
theorem Sh.of_below {w w' : World} (h : Below w.heap.size w w') : Sh w w' := fun g cs _ hg => ⟨cs, (h.block g (lt_of_block hg)).trans hg, rfl⟩
theorem Sh.alloc (w : World) (o : Obj) : Sh w (w.alloc o) := Sh.of_below ((Below.refl _ _).alloc (Nat.le_refl _) o)
theorem Sh.setCells {w : World} {b : Nat} {cs : Array Value} {T : TypeId} (hb : w.heap[b]? = some (.cells cs T (0, 0))) (o : Nat) (vs : List Value) : Sh w (w.setCells b o vs) := fun g c U hg => by
  by_cases h : g = b
  · subst h
    rw [hg] at hb
    cases hb
    exact ⟨_, heap_setCells vs w _ o hg, setR_size _ _ _⟩
  · exact ⟨c, (heap_setCells_ne h vs w o).trans hg, rfl⟩
theorem Sh.setCell {w : World} {b : Nat} {cs : Array Value} {T : TypeId} (hb : w.heap[b]? = some (.cells cs T (0, 0))) (o : Nat) (u : Value) : Sh w (w.setCell ⟨b, o, none⟩ u) := Sh.setCells hb o [u]
theorem Sh.of_none {w w' : World} (h : w.grownBy w' none) : Sh w w' := fun g cs _ hg => ⟨cs, (h.block g (lt_of_block hg) (by simp)).trans hg, rfl⟩
theorem Blk.of_own {T : TypeId} {k M : Nat} {w : World} {v : Value} {n : Nat} {xs : List Value} (h : w.ownsRow M T k v n xs) : Blk T k M w v n xs := by
  refine ⟨h.1, ?_⟩
  rcases h.2 with h | ⟨g, c, cs, e, h1, h2, h3, _, h5, h6⟩
  · exact .inl h
  · exact .inr ⟨g, c, cs, e, h3, h1, h2, by omega, h6⟩
theorem Blk.mono {T : TypeId} {k M M' : Nat} {w : World} {v : Value} {n : Nat} {xs : List Value} (h : Blk T k M w v n xs) (hM : M' ≤ M) : Blk T k M' w v n xs := by
  refine ⟨h.1, ?_⟩
  rcases h.2 with h | ⟨g, c, cs, e, h3, h1, h2⟩
  · exact .inl h
  · exact .inr ⟨g, c, cs, e, h3, by omega, h2⟩
theorem Blk.later {T : TypeId} {k M : Nat} {w w' : World} {v : Value} {n : Nat} {xs : List Value} (h : Blk T k M w v n xs) (hb : Below w.heap.size w w') : Blk T k M w' v n xs := by
  refine ⟨h.1, ?_⟩
  rcases h.2 with h | ⟨g, c, cs, e, h3, h1, h2, h4⟩
  · exact .inl h
  · exact .inr ⟨g, c, cs, e, h3, h1, (hb.block g (lt_of_block h2)).trans h2, h4⟩
/-- Whatever it holds. -/
theorem Blk.sh {T : TypeId} {k M : Nat} {w w' : World} {v : Value} {n : Nat} {xs : List Value} (h : Blk T k M w v n xs) (hs : Sh w w') : ∃ ys, Blk T k M w' v n ys := by
  obtain ⟨h0, h | ⟨g, c, cs, e, h3, h1, h2, h4, h5⟩⟩ := h
  · exact ⟨xs, h0, .inl h⟩
  · obtain ⟨cs', e1, e2⟩ := hs g cs T h2
    refine ⟨cs'.toList.take (n * k), ?_, .inr ⟨g, c, cs', e, h3, h1, e1, by omega, rfl⟩⟩
    rw [List.length_take, Array.length_toList, e2]
    have := Nat.mul_le_mul_right k h3
    omega
theorem Blk.form {T : TypeId} {k M : Nat} {w : World} {v : Value} {n : Nat} {xs : List Value} (h : Blk T k M w v n xs) : ∃ p c, v = .slice p n c := by
  rcases h.2 with ⟨rfl, rfl⟩ | ⟨g, c, cs, rfl, _⟩
  · exact ⟨_, _, rfl⟩
  · exact ⟨_, _, rfl⟩
theorem Blk.cell {T : TypeId} {k M : Nat} {w : World} {g c n : Nat} {xs : List Value} (h : Blk T k M w (.slice (some ⟨g, 0, none⟩) n c) n xs) {o : Nat} {u : Value} (hu : xs[o]? = some u) : w.cell? ⟨g, o, none⟩ = some u := by
  obtain ⟨_, ⟨h, _⟩ | ⟨g', c', cs, e, _, _, hb, _, ht⟩⟩ := h
  · cases h
  · cases e
    rw [cell_in hb, ← Array.getElem?_toList]
    rw [← ht, List.getElem?_take] at hu
    split at hu
    · exact hu
    · cases hu
theorem Blk.at_ {T : TypeId} {k M : Nat} {w : World} {p : Option Addr} {c n : Nat} {xs : List Value} (h : Blk T k M w (.slice p n c) n xs) (hn : 0 < n) : ∃ g cs, p = some ⟨g, 0, none⟩ ∧ M ≤ g ∧ n ≤ c ∧ w.heap[g]? = some (.cells cs T (0, 0)) ∧ c * k ≤ cs.size ∧ cs.toList.take (n * k) = xs := by
  obtain ⟨_, ⟨_, h⟩ | ⟨g, c', cs, e, h1, h2, hb, h3, ht⟩⟩ := h
  · omega
  · cases e
    exact ⟨g, cs, rfl, h2, h1, hb, h3, ht⟩
theorem take_setR {cs : Array Value} {n : Nat} {vs : List Value} (h : n + vs.length ≤ cs.size) : (setR cs n vs).toList.take (n + vs.length) = cs.toList.take n ++ vs := by
  have hc : cs.toList.length = cs.size := by simp
  have hc2 : (cs.toList.take n).length = n := by rw [List.length_take, hc]; omega
  refine List.ext_getElem? fun i => ?_
  by_cases h1 : i < n
  · rw [List.getElem?_take_of_lt (by omega), List.getElem?_append_left (by rw [hc2]; exact h1), List.getElem?_take_of_lt h1, Array.getElem?_toList, Array.getElem?_toList, setR_out vs cs n i (by omega)]
  · rw [List.getElem?_append_right (by omega), hc2]
    by_cases h2 : i < n + vs.length
    · rw [List.getElem?_take_of_lt h2, Array.getElem?_toList]
      have hv : vs[i - n]? = some (vs[i - n]'(by omega)) := List.getElem?_eq_getElem (by omega)
      have := setR_in vs cs n (by omega) (i - n) _ hv
      rw [show n + (i - n) = i by omega] at this
      rw [this, hv]
    · rw [List.getElem?_eq_none (by rw [List.length_take]; omega), List.getElem?_eq_none (by omega)]
section
variable {P : Program}
theorem run_append_blk (w : World) (t ty : TypeId) (M : Nat) (e : TypeId) (i : TypeInfo) (z : Value) (size bytes : Nat) (ht : P.underlying t = some (.slice e)) (hi : P.info? e = some i) (hz : i.zero = some z)
    (hsize : i.size = size) (hby : i.bytes = bytes) (hzs : z.cells.size = size) (hsz : 0 < size)
    (v : Value) (n : Nat) (xs : List Value) (hB : Blk e size M w v n xs) (y : Value) (m : Nat) (news : List Value) (hm : 0 < m) (hy : SrcV w y m news) (hl : news.length = m * size) (h1 : ∀ u ∈ news, u.oneCell' = true)
    (h63 : n + m ≤ maxLen) (hbytes : (n + m) * bytes ≤ 140737488355328) (hM : M ≤ w.heap.size) :
    ∃ p c w', (Builtin.append_ #[t, t] ty #[v, y]).run P w = .ok (.slice p (n + m) c) w' ∧ Blk e size M w' (.slice p (n + m) c) (n + m) (xs ++ news) ∧ w.grownBy w' v.ownBlock ∧ Sh w w' := by
  obtain ⟨h0, ⟨rfl, rfl⟩ | ⟨g, c, cs, rfl, hnc, hMg, hb, hcs, htake⟩⟩ := hB
  · obtain ⟨p, cap, w', hr, h2, h3⟩ := run_append_any (P := P) w t ty M e i z size bytes ht hi hz hsize hby hzs hsz (.slice none 0 0) 0 xs ⟨h0, .inl ⟨rfl, rfl⟩⟩ y m news hy hl h1 h63 hbytes hM
    exact ⟨p, cap, w', hr, Blk.of_own h2, h3, Sh.of_none h3⟩
  · rcases hy with ⟨h, _⟩ | ⟨_, ad, c', rfl, hc⟩
    · omega
    have hcut : ∀ (j : Nat) (u : Value), xs[j]? = some u → w.cell? ⟨g, j, none⟩ = some u := fun j u hj => by
      rw [cell_in hb, ← Array.getElem?_toList]
      rw [← htake, List.getElem?_take] at hj
      split at hj
      · exact hj
      · cases hj
    by_cases hroom : n + m ≤ c
    · have hsum : n * size + m * size ≤ cs.size := by
        have := Nat.mul_le_mul_right size hroom
        rw [Nat.add_mul] at this
        omega
      have hr := run_append_room_cells (P := P) w t ty e i ht hi g 0 n c ad m c' news (by rw [hl, hsize]) hc h1 hroom (fun j hj => by rw [cell_in hb, Nat.zero_add, hsize, Array.getElem?_eq_getElem (by omega)]; rfl) (fun j hj => free_in hb)
      rw [Nat.zero_add, hsize] at hr
      refine ⟨_, c, _, hr, ⟨by rw [List.length_append, h0, hl, Nat.add_mul], .inr ⟨g, c, setR cs (n * size) news, rfl, hroom, hMg, heap_setCells news w cs (n * size) hb, by rw [setR_size]; exact hcs, ?_⟩⟩, ?_, Sh.setCells hb _ _⟩
      · rw [Nat.add_mul, ← hl, take_setR (by omega), htake]
      · have hu := upd_setCells (S := [g]) (a := w) (g := g) (.inl (by simp)) news w (n * size) (Upd.refl _ _)
        exact ⟨hu.os, hu.tape, hu.output, hu.size, fun k hk hne => hu.block k hk (fun hm => hne (by rw [List.mem_singleton.1 hm]; rfl))⟩
    · obtain ⟨v', w', hr, h2, h3⟩ := run_append_arg_grows (P := P) w t ty e i z size bytes ht hi hz hsize hby hzs hsz ⟨g, 0, none⟩ n c xs h0 (fun j u hj => by rw [addN, Nat.zero_add]; exact hcut j u hj) ad m c' news hl hc (by omega) h63 hbytes
      obtain ⟨p, c2, rfl⟩ := Blk.form (Blk.of_own h2)
      exact ⟨p, c2, w', hr, (Blk.of_own h2).mono hM, ⟨h3.os, h3.tape, h3.output, h3.size, fun k hk _ => h3.block k hk (by simp)⟩, Sh.of_none h3⟩
theorem wpList_append_blk {ops : Array Oper} {rest : List Oper} {o : Oper} {a : Act} {w : World} {Q : Exit → Act → World → Prop} (hgd : o.guard = none) (s x : Operand) (t : TypeId)
    (ho : o.op = .call { callee := .builtin .append, args := #[s, x], argTypes := #[t, t] })
    (e : TypeId) (i : TypeInfo) (z : Value) (size bytes : Nat) (ht : P.underlying t = some (.slice e)) (hi : P.info? e = some i) (hz : i.zero = some z)
    (hsize : i.size = size) (hby : i.bytes = bytes) (hzs : z.cells.size = size) (hsz : 0 < size)
    (M : Nat) (v : Value) (n : Nat) (xs : List Value) (hs : a.eval s = v) (hB : Blk e size M w v n xs) (y : Value) (m : Nat) (news : List Value) (hm : 0 < m) (hx : a.eval x = y) (hy : SrcV w y m news) (hl : news.length = m * size)
    (h1 : ∀ u ∈ news, u.oneCell' = true) (h63 : n + m ≤ 9223372036854775807) (hbytes : (n + m) * bytes ≤ 140737488355328) (hM : M ≤ w.heap.size)
    (h : ∀ p c w', Blk e size M w' (.slice p (n + m) c) (n + m) (xs ++ news) → w.grownBy w' v.ownBlock → Sh w w' → wpList P ops Q rest (a.put o.dst (.slice p (n + m) c)) w') :
    wpList P ops Q (o :: rest) a w := by
  refine wpList_plain hgd fun K hK => ?_
  obtain ⟨p, c, w', hr, h2, h3, h4⟩ := run_append_blk (P := P) w t o.type M e i z size bytes ht hi hz hsize hby hzs hsz v n xs hB y m news hm hy hl h1 (by unfold maxLen; omega) hbytes hM
  unfold Oper.wp execOp
  simp only [ho, resolve, invoke, builtin, Sem.run_bind, Sem.run_pure, Result.andThen_ok, List.map_toArray, List.map_cons, List.map_nil, hs, hx, hr]
  exact hK _ _ (h p c w' h2 h3 h4)
end
/-- A list of its own, loosely. -/
theorem Blk.of_new {α : Type} {enc : α → List Value} {k : Nat} (hk : ∀ x, (enc x).length = k) {T : TypeId} {M : Nat} {w : World} {v : Value} {l : List α} (h : rw.NewRw enc k T M w v l) : Blk T k M w v l.length (rw.flat enc l) := by
  refine ⟨rw.flat_len hk l, ?_⟩
  rcases h with ⟨rfl, rfl⟩ | ⟨g, c, cs, rfl, hc, hg, hb, hcs, hat⟩
  · exact .inl ⟨rfl, rfl⟩
  · refine .inr ⟨g, c, cs, rfl, hc, hg, hb, hcs, ?_⟩
    refine List.ext_getElem? fun i => ?_
    by_cases hi : i < l.length * k
    · rw [List.getElem?_take_of_lt hi, Array.getElem?_toList]
      have h2 : (rw.flat enc l)[i]? = some ((rw.flat enc l)[i]'(by rw [rw.flat_len hk]; exact hi)) := List.getElem?_eq_getElem _
      have := hat i _ h2
      rw [Nat.zero_add] at this
      rw [this, h2]
    · rw [List.getElem?_eq_none (by rw [List.length_take]; omega), List.getElem?_eq_none (by rw [rw.flat_len hk]; omega)]
end Go.Proofs.YthjcifokmcbaoaaGreatDoor
/- The blocks from one on, below another. No program in sight; no conditions. -/
namespace Go.Proofs.YthjcifokmcbaoaaGreatDoor
/-- The blocks from B on, below M. -/
def span (B M : Nat) : List Nat := (List.range (M - B)).map (B + ·)
theorem mem_span {B M k : Nat} : k ∈ span B M ↔ B ≤ k ∧ k < M := by
  simp only [span, List.mem_map, List.mem_range]
  constructor
  · rintro ⟨a, h1, rfl⟩; omega
  · rintro ⟨h1, h2⟩; exact ⟨k - B, by omega, by omega⟩
end Go.Proofs.YthjcifokmcbaoaaGreatDoor
/- law 18's over writes into its own list's blocks alone. Conditions: at most 1000 moves, each with at most 1000 needs and steps. -/
namespace Go.Proofs.YthjcifokmcbaoaaGreatDoor.st
open Go.ChangeShapes Go.WideShapes Go.ChangeAt Go.RowKit gl ls

/-- A slice in a block from M on, below M2, whatever it holds. -/
def In (T : TypeId) (k M M2 : Nat) (w : World) (v : Value) (n : Nat) : Prop := (∃ xs, Blk T k M w v n xs) ∧ ∀ g, v.ownBlock = some g → g < M2
theorem In.sh {T : TypeId} {k M M2 : Nat} {w w' : World} {v : Value} {n : Nat} (h : In T k M M2 w v n) (hs : Sh w w') : In T k M M2 w' v n := by
  obtain ⟨⟨xs, hx⟩, hg⟩ := h
  exact ⟨hx.sh hs, hg⟩
/-- What is left of a list of moves from place i on. -/
def LeftMv (M M2 : Nat) (w : World) (g n c i : Nat) : Prop :=
  M ≤ g ∧ g < M2 ∧ n ≤ c ∧ ∃ cs, w.heap[g]? = some (.cells cs 36 (0, 0)) ∧ c * 3 ≤ cs.size ∧ ∀ j, i ≤ j → j < n → ∃ vn vs nn ns, cs[j * 3 + 1]? = some vn ∧ cs[j * 3 + 2]? = some vs ∧ nn ≤ 1000 ∧ ns ≤ 1000 ∧ In 9 1 M M2 w vn nn ∧ In 42 5 M M2 w vs ns
theorem LeftMv.keep {M M2 : Nat} {w w' : World} {g n c i : Nat} (h : LeftMv M M2 w g n c i) (hs : Sh w w') (hk : w'.heap[g]? = w.heap[g]?) : LeftMv M M2 w' g n c i := by
  obtain ⟨h1, h2, h3, cs, h4, h5, h6⟩ := h
  refine ⟨h1, h2, h3, cs, hk.trans h4, h5, fun j hj hn => ?_⟩
  obtain ⟨vn, vs, nn, ns, a, b, c1, d, e, f⟩ := h6 j hj hn
  exact ⟨vn, vs, nn, ns, a, b, c1, d, e.sh hs, f.sh hs⟩
theorem LeftMv.put {M M2 : Nat} {w : World} {g n c i : Nat} (h : LeftMv M M2 w g n c i) (vs : List Value) (hv : vs.length = 3) : LeftMv M M2 (w.setCells g (i * 3) vs) g n c (i + 1) := by
  obtain ⟨h1, h2, h3, cs, h4, h5, h6⟩ := h
  refine ⟨h1, h2, h3, _, heap_setCells vs w cs (i * 3) h4, by rw [setR_size]; exact h5, fun j hj hn => ?_⟩
  obtain ⟨vn, vs', nn, ns, a, b, c1, d, e, f⟩ := h6 j (by omega) hn
  exact ⟨vn, vs', nn, ns, by rw [setR_out _ _ _ _ (by omega)]; exact a, by rw [setR_out _ _ _ _ (by omega)]; exact b, c1, d, e.sh (Sh.setCells h4 _ _), f.sh (Sh.setCells h4 _ _)⟩
theorem LeftMv.start {M M2 : Nat} {w : World} {p : Option Addr} {n c : Nat} {R : List MvR} {l : List Mv} (h : NewMv M w (.slice p n c) R l) (hM : w.heap.size ≤ M2) (hn : 0 < n) (hlow : ∀ x ∈ l, x.needs.length ≤ 1000 ∧ x.steps.length ≤ 1000) : ∃ g, p = some ⟨g, 0, none⟩ ∧ LeftMv M M2 w g n c 0 := by
  obtain ⟨h1, h2, h3⟩ := h
  have hl := (h1.rw mvC_len).ptr.1
  rcases h1 with ⟨_, e⟩ | ⟨g, c', cs, e, e1, e2, e3, e4, e5⟩
  · cases e
    omega
  · cases e
    refine ⟨g, rfl, e2, by have := lt_of_block e3; omega, e1, cs, e3, e4, fun j _ hj => ?_⟩
    obtain ⟨x, hx⟩ : ∃ x, R[j]? = some x := ⟨_, List.getElem?_eq_getElem hj⟩
    obtain ⟨m, hm⟩ : ∃ m, l[j]? = some m := ⟨_, List.getElem?_eq_getElem (by rw [← h2]; exact hj)⟩
    obtain ⟨g1, g2, g3⟩ := h3 j x m hx hm
    obtain ⟨lo1, lo2⟩ := hlow m (List.mem_of_getElem? hm)
    have a1 := e5 (j * 3 + 1) _ (rw.flat_at mvC_len R j x 1 _ hx rfl)
    have a2 := e5 (j * 3 + 2) _ (rw.flat_at mvC_len R j x 2 _ hx rfl)
    rw [Nat.zero_add] at a1 a2
    refine ⟨_, _, m.needs.length, m.steps.length, a1, a2, lo1, lo2, ⟨⟨_, Blk.of_new txC_len g2⟩, fun b hb => ?_⟩, ⟨⟨_, Blk.of_new spC_len g3⟩, fun b hb => ?_⟩⟩
    · rcases g2 with ⟨_, e⟩ | ⟨g, c, cs, e, _, _, hk, _⟩
      · rw [e] at hb; cases hb
      · rw [e] at hb; cases hb
        have := lt_of_block hk
        exact Nat.lt_of_lt_of_le this hM
    · rcases g3 with ⟨_, e⟩ | ⟨g, c, cs, e, _, _, hk, _⟩
      · rw [e] at hb; cases hb
      · rw [e] at hb; cases hb
        have := lt_of_block hk
        exact Nat.lt_of_lt_of_le this hM
theorem blk_set1 {T : TypeId} {k M : Nat} {w : World} {g c n : Nat} {xs : List Value} (h : Blk T k M w (.slice (some ⟨g, 0, none⟩) n c) n xs) (o : Nat) (u : Value) : Blk T k M (w.setCell ⟨g, o, none⟩ u) (.slice (some ⟨g, 0, none⟩) n c) n (xs.set o u) := by
  obtain ⟨h0, ⟨h, _⟩ | ⟨g', c', cs, e, h1, h2, hb, h3, ht⟩⟩ := h
  · cases h
  · cases e
    refine ⟨by rw [List.length_set]; exact h0, .inr ⟨g, c, _, rfl, h1, h2, heap_set hb u, by simpa using h3, ?_⟩⟩
    rw [← ht, Array.toList_setIfInBounds, List.take_set]
theorem blk_ne {T U : TypeId} {k M n : Nat} {w : World} {v : Value} {xs : List Value} (h : Blk T k M w v n xs) {g : Nat} {cs : Array Value} (hg : w.heap[g]? = some (.cells cs U (0, 0))) (hT : T ≠ U) : some g ≠ v.ownBlock := by
  intro hh
  rcases h.2 with ⟨rfl, _⟩ | ⟨b, c, cs', rfl, _, _, hb, _⟩
  · cases hh
  · obtain rfl := Option.some.inj hh
    rw [hg] at hb
    cases hb
    exact hT rfl
theorem blk_lo {T : TypeId} {k M n : Nat} {w : World} {v : Value} {xs : List Value} (h : Blk T k M w v n xs) (q : Nat) (hq : v.ownBlock = some q) : M ≤ q := by
  rcases h.2 with ⟨rfl, _⟩ | ⟨b, c, cs', rfl, _, hM, _⟩
  · cases hq
  · cases hq
    exact hM
theorem blk_grown {T U : TypeId} {k k2 M M2 n n2 : Nat} {w w' : World} {v v2 : Value} {xs ys : List Value} (h : Blk T k M w v n xs) (h2 : Blk U k2 M2 w v2 n2 ys) (hT : U ≠ T) (hg : w.grownBy w' v2.ownBlock) : Blk T k M w' v n xs := by
  refine ⟨h.1, ?_⟩
  rcases h.2 with h1 | ⟨g, c, cs, e, a1, a2, hb, a3⟩
  · exact .inl h1
  · exact .inr ⟨g, c, cs, e, a1, a2, (hg.block g (lt_of_block hb) (blk_ne h2 hb hT)).trans hb, a3⟩
theorem src_two {w : World} {g : Nat} {cs : Array Value} {T : TypeId} (hg : w.heap[g]? = some (.cells cs T (0, 0))) : SrcV w (.slice (some ⟨g, 0, none⟩) 2 2) 2 cs.toList := .inr ⟨by decide, _, _, rfl, fun j u hj => by
    rw [addN, cell_in hg, Nat.zero_add, ← Array.getElem?_toList]
    exact hj⟩
theorem blk_set_far {T U : TypeId} {k M : Nat} {w : World} {v : Value} {n : Nat} {Q : List Value → Prop} (h : ∃ xs, Blk T k M w v n xs ∧ Q xs) {b : Nat} {cs : Array Value} (hb : w.heap[b]? = some (.cells cs U (0, 0))) (hT : T ≠ U) (o : Nat) (vs : List Value) : ∃ xs, Blk T k M (w.setCells b o vs) v n xs ∧ Q xs := by
  obtain ⟨xs, ⟨h0, h⟩, hq⟩ := h
  refine ⟨xs, ⟨h0, ?_⟩, hq⟩
  rcases h with h | ⟨g, c, cs', e, h1, h2, h3, h4⟩
  · exact .inl h
  · exact .inr ⟨g, c, cs', e, h1, h2, (heap_setCells_ne (ne_of_types h3 hb hT) vs w o).trans h3, h4⟩
abbrev ovB : ByteArray := ⟨#[111, 118, 101, 114]⟩
abbrev stM : List Value := [.int .i64 (-1), .string ⟨#[]⟩, .string ⟨#[]⟩, .string ⟨#[]⟩, .string ⟨#[]⟩]
theorem lit_src2 {w : World} {g : Nat} {cs : Array Value} {T : TypeId} {n : Nat} (hn : 0 < n) (hg : w.heap[g]? = some (.cells cs T (0, 0))) : SrcV w (.slice (some ⟨g, 0, none⟩) n n) n cs.toList := .inr ⟨hn, _, _, rfl, fun j u hj => by
    rw [addN, cell_in hg, Nat.zero_add, ← Array.getElem?_toList]
    exact hj⟩
set_option maxHeartbeats 8000000 in
set_option maxRecDepth 100000 in
theorem over18_any (M M2 g n c : Nat) (hn : n ≤ 1000) (w : World) (hM2 : M2 ≤ w.heap.size) (h : LeftMv M M2 w g n c 0) :
    Calls Tryz.prog 21 #[.slice (some ⟨g, 0, none⟩) n c] w fun e w' => e = .returned (.tuple #[]) ∧ Upd (span M M2) w w' := by
  have HL := Lib.hid h
  have hMg : M ≤ g := h.1
  have hgM : g < M2 := h.2.1
  obtain ⟨i0, hi, hz0, hz1, hz2⟩ := info_parts infoTx
  obtain ⟨i1, si, sz0, sz1, sz2⟩ := info_parts infoSp
  clear h
  go_enter Tryz.func21, Tryz.ntmps21
  go_wp2_with fail
  go_loopw [2] (fun i wr => ∃ k : Nat, k ≤ n ∧ i = .int .i64 k ∧ Hid (LeftMv M M2 wr g n c k) ∧ Hid (Upd (span M M2) w wr)) (fun i _ => n - (intOf i).toNat)
  case atStart => exact ⟨0, by omega, rfl, HL, Lib.hid (Upd.refl _ _)⟩
  case round =>
    clear HL
    obtain ⟨i, hi', rfl, HL, HU⟩ := hrel
    obtain ⟨wO, hwO⟩ : ∃ wO, wO = wr := ⟨_, rfl⟩
    subst hwO
    have hzO := HU.out.size
    by_cases hlt : i < n
    · obtain ⟨_, _, hnc, cg, hcg, hcs, hall⟩ := HL.out
      obtain ⟨vn, vs, nn, ns, hvn, hvs, hnn, hns, hIn, hIs⟩ := hall i (Nat.le_refl _) hlt
      obtain ⟨⟨xs0, hbn⟩, hgn⟩ := hIn
      obtain ⟨⟨ys0, hbs⟩, hgs⟩ := hIs
      obtain ⟨pn, cn, rfl⟩ := hbn.form
      obtain ⟨ps, cs, rfl⟩ := hbs.form
      have Hcg := Lib.hid hcg
      have Hvn := Lib.hid hvn
      have Hvs := Lib.hid hvs
      have c1 : wO.cell? ⟨g, i * 3 + 1, none⟩ = some (.slice pn nn cn) := (cell_in hcg).trans hvn
      have c2 : wO.cell? ⟨g, i * 3 + 2, none⟩ = some (.slice ps ns cs) := (cell_in hcg).trans hvs
      have hki : (i : Int) < (n : Int) := by omega
      have hk5 : (0 : Int) ≤ (i : Int) := by omega
      have hgO : g < wO.heap.size := by omega
      have HB0 := Lib.hid hbn
      have HS0 := Lib.hid hbs
      have Hgn := Lib.hid hgn
      have Hgs := Lib.hid hgs
      clear hcg hall hvn hvs hbn hbs hgn hgs hcs
      go_wp2_with fail
      go_loopw [3] (fun kv wx => ∃ k : Nat, k ≤ nn ∧ kv = .int .i64 k ∧ Hid (∃ xs, Blk 9 1 M wx (.slice pn nn cn) nn xs ∧ ∀ j, j < k → xs[j]? = some (.string ovB)) ∧ Hid (wx.heap[g]? = wO.heap[g]?) ∧ Hid (Sh wO wx) ∧ Hid (Upd (span M M2) w wx)) (fun kv _ => nn - (intOf kv).toNat)
      case atStart => exact ⟨0, by omega, rfl, Lib.hid ⟨xs0, HB0.out, fun j hj => by omega⟩, Lib.hid rfl, Lib.hid (Sh.refl _), HU⟩
      case round =>
        clear c1 c2
        obtain ⟨k, hk, rfl, HBk, Hgk, Hsh, HUk⟩ := hrel
        have hkg := Hgk.out.trans Hcg.out
        have hgr : g < wr.heap.size := lt_of_block hkg
        have c1 : wr.cell? ⟨g, i * 3 + 1, none⟩ = some (.slice pn nn cn) := (cell_in hkg).trans Hvn.out
        by_cases hlt2 : k < nn
        · obtain ⟨xs, hbk, hxs⟩ := HBk.out
          obtain ⟨gn, csn, rfl, hgn1, _, hkn, hszn, htn⟩ := hbk.at_ (by omega)
          have hgnM : gn < M2 := Hgn.out gn rfl
          have hne : g ≠ gn := ne_of_types hkg hkn (by decide)
          have hl1 := hbk.1
          have c3 : wr.cell? ⟨gn, k, none⟩ = some (xs[k]'(by omega)) := hbk.cell (List.getElem?_eq_getElem _)
          have c4 : wr.frozen? ⟨gn, k, none⟩ = false := free_in hkn
          generalize xs[k]'(by omega) = old at c3
          have hgnr : gn < wr.heap.size := lt_of_block hkn
          have HB2 : Hid (∃ ys, Blk 9 1 M (wr.setCell ⟨gn, k, none⟩ (.string ovB)) (.slice (some ⟨gn, 0, none⟩) nn cn) nn ys ∧ ∀ j, j < k + 1 → ys[j]? = some (.string ovB)) := Lib.hid ⟨_, blk_set1 hbk k (.string ovB), fun j hj => by
            by_cases hjk : j = k
            · subst hjk
              rw [List.getElem?_set_self (by omega)]
            · rw [List.getElem?_set_ne (by omega)]
              exact hxs j (by omega)⟩
          have HG2 : Hid ((wr.setCell ⟨gn, k, none⟩ (.string ovB)).heap[g]? = wO.heap[g]?) := Lib.hid ((Below.heap_setCell wr _ _ g hne).trans Hgk.out)
          have HS2 : Hid (Sh wO (wr.setCell ⟨gn, k, none⟩ (.string ovB))) := Lib.hid (Hsh.out.trans (Sh.setCell hkn _ _))
          have HU2 : Hid (Upd (span M M2) w (wr.setCell ⟨gn, k, none⟩ (.string ovB))) := Lib.hid (HUk.out.setCell (.inl (mem_span.2 ⟨hgn1, hgnM⟩)) _)
          have hkk : (k : Int) < (nn : Int) := by omega
          have hkk5 : (0 : Int) ≤ (k : Int) := by omega
          clear hbk hxs hkn hszn htn hkg hl1
          go_wp2_with fail
          go_roundw
          case rel => exact ⟨k + 1, by omega, by go_num, HB2, HG2, HS2, HU2⟩
          case measure => simp [intOf]; omega
        · obtain rfl : k = nn := by omega
          obtain ⟨wX, hwX⟩ : ∃ wX, wX = wr := ⟨_, rfl⟩
          subst hwX
          go_wp2_with fail
          clear c1
          go_loopw [4] (fun kv wx => ∃ t : Nat, t ≤ ns ∧ kv = .int .i64 t ∧ Hid (wx.heap[g]? = wO.heap[g]?) ∧ Hid (∃ xs, Blk 9 1 M wx (.slice pn k cn) k xs ∧ ∀ j, j < k → xs[j]? = some (.string ovB)) ∧ Hid (Sh wO wx) ∧ Hid (Upd (span M M2) w wx)) (fun kv _ => ns - (intOf kv).toNat)
          case atStart => exact ⟨0, by omega, rfl, Hgk, HBk, Hsh, HUk⟩
          case round =>
            clear Hgk HBk Hsh HUk
            obtain ⟨t, ht, rfl, Hgk, HBk, Hsh, HUk⟩ := hrel
            have hkg := Hgk.out.trans Hcg.out
            have hgr : g < wr.heap.size := lt_of_block hkg
            have c2 : wr.cell? ⟨g, i * 3 + 2, none⟩ = some (.slice ps ns cs) := (cell_in hkg).trans Hvs.out
            obtain ⟨zs, hzs⟩ := HS0.out.sh Hsh.out
            by_cases hlt3 : t < ns
            · obtain ⟨gs, css, rfl, hgs1, hns', hks, hszs, _⟩ := hzs.at_ (by omega)
              have hgsM : gs < M2 := Hgs.out gs rfl
              have hne : g ≠ gs := ne_of_types hkg hks (by decide)
              have hgsr : gs < wr.heap.size := lt_of_block hks
              have hszt : t * 5 + 5 ≤ css.size := by
                have := Nat.mul_le_mul_right 5 (show t + 1 ≤ cs by omega)
                omega
              have hat : ∀ q, q < 5 → wr.cell? ⟨gs, t * 5 + q, none⟩ = some (css[t * 5 + q]?.getD undef) := fun q hq => by
                rw [cell_in hks, Array.getElem?_eq_getElem (by omega)]
                rfl
              have d0 := hat 0 (by omega)
              have d1 := hat 1 (by omega)
              have d2 := hat 2 (by omega)
              have d3 := hat 3 (by omega)
              have d4 := hat 4 (by omega)
              rw [Nat.add_zero] at d0
              have e0 : wr.frozen? ⟨gs, t * 5, none⟩ = false := free_in hks
              have e1 : wr.frozen? ⟨gs, t * 5 + 1, none⟩ = false := free_in hks
              have e2 : wr.frozen? ⟨gs, t * 5 + 2, none⟩ = false := free_in hks
              have e3 : wr.frozen? ⟨gs, t * 5 + 3, none⟩ = false := free_in hks
              have e4 : wr.frozen? ⟨gs, t * 5 + 4, none⟩ = false := free_in hks
              generalize css[t * 5]?.getD undef = o0 at d0
              generalize css[t * 5 + 1]?.getD undef = o1 at d1
              generalize css[t * 5 + 2]?.getD undef = o2 at d2
              generalize css[t * 5 + 3]?.getD undef = o3 at d3
              generalize css[t * 5 + 4]?.getD undef = o4 at d4
              have HX : Hid ((wr.setCells gs (t * 5) stM).heap[g]? = wO.heap[g]? ∧ (∃ xs, Blk 9 1 M (wr.setCells gs (t * 5) stM) (.slice pn k cn) k xs ∧ ∀ j, j < k → xs[j]? = some (.string ovB)) ∧ Sh wO (wr.setCells gs (t * 5) stM) ∧ Upd (span M M2) w (wr.setCells gs (t * 5) stM)) := Lib.hid
                ⟨(heap_setCells_ne hne _ _ _).trans Hgk.out, blk_set_far HBk.out hks (by decide) _ _, Hsh.out.trans (Sh.setCells hks _ _), upd_setCells (.inl (mem_span.2 ⟨hgs1, hgsM⟩)) _ _ _ HUk.out⟩
              have hkk : (t : Int) < (ns : Int) := by omega
              have hkk5 : (0 : Int) ≤ (t : Int) := by omega
              clear hat hks hszs hkg hzs hszt
              go_wp2_with fail
              go_roundw
              case rel => exact ⟨t + 1, by omega, by go_num, Lib.hid HX.out.1, Lib.hid HX.out.2.1, Lib.hid HX.out.2.2.1, Lib.hid HX.out.2.2.2⟩
              case measure => simp [intOf]; omega
            · obtain rfl : t = ns := by omega
              obtain ⟨xs, hbk, hxs⟩ := HBk.out
              have c1 : wr.cell? ⟨g, i * 3 + 1, none⟩ = some (.slice pn k cn) := (cell_in hkg).trans Hvn.out
              have hbA : Below wr.heap.size wr (wr.alloc (.cells #[.string ovB, .string ovB] 9)) := (Below.refl _ _).alloc (Nat.le_refl _) _
              have HbA := Lib.hid hbA
              have HBA := Lib.hid (hbk.later hbA)
              have HsrcA := Lib.hid (lit_src2 (n := 2) (by decide) (heap_alloc_new wr (.cells #[.string ovB, .string ovB] 9)))
              have Hxs := Lib.hid hxs
              have HkgA := Lib.hid ((hbA.block g hgr).trans hkg)
              have HUA : Hid (Upd (span M M2) w (wr.alloc (.cells #[.string ovB, .string ovB] 9))) := Lib.hid (HUk.out.alloc _)
              have HshA : Hid (Sh wO (wr.alloc (.cells #[.string ovB, .string ovB] 9))) := Lib.hid (Hsh.out.trans (Sh.alloc _ _))
              have hzA : M ≤ (wr.alloc (.cells #[.string ovB, .string ovB] 9)).heap.size := by have := hbA.size; omega
              have Hoa : Hid (∀ u ∈ (#[.string ovB, .string ovB] : Array Value).toList, u.oneCell' = true) := Lib.hid (by simp [Value.oneCell'])
              clear hbk hxs hbA hzs hkg
              focus
                go_wp2_with (at_builtin; go_must (refine wpList_append_blk rfl _ _ 24 rfl 9 i0 _ 1 16 Tryz.underlying24 hi hz0 hz1 hz2 rfl (by decide) M _ k xs (by rfl) HBA.out _ 2 _ (by decide) (by rfl) HsrcA.out (by rfl) Hoa.out (by omega) (by omega) hzA ?_))
              intro p5 c5 w5 hb5 hg5 hs5
              have hk5g := (hg5.block g (lt_of_block HkgA.out) (blk_ne HBA.out HkgA.out (by decide))).trans HkgA.out
              have e2 : w5.cell? ⟨g, i * 3 + 2, none⟩ = some (.slice ps t cs) := (cell_in hk5g).trans Hvs.out
              have hg5r : g < w5.heap.size := lt_of_block hk5g
              have hsh5 := HshA.out.trans hs5
              obtain ⟨zs, hzs⟩ := HS0.out.sh hsh5
              have hU5 := HUA.out.grown hg5 (fun q hq => .inl (mem_span.2 ⟨blk_lo HBA.out q hq, Hgn.out q hq⟩))
              have hbB : Below w5.heap.size w5 (w5.alloc (.cells (stM ++ stM).toArray 42)) := (Below.refl _ _).alloc (Nat.le_refl _) _
              have HBB := Lib.hid (hzs.later hbB)
              have HsrcB := Lib.hid (lit_src2 (n := 2) (by decide) (heap_alloc_new w5 (.cells (stM ++ stM).toArray 42)))
              have HsrcB' : Hid (SrcV (w5.alloc (.cells (stM ++ stM).toArray 42)) (.slice (some ⟨w5.heap.size, 0, none⟩) 2 2) 2 (stM ++ stM)) := Lib.hid (src_two (heap_alloc_new w5 (.cells (stM ++ stM).toArray 42)))
              have HkgB := Lib.hid ((hbB.block g hg5r).trans hk5g)
              have HUB : Hid (Upd (span M M2) w (w5.alloc (.cells (stM ++ stM).toArray 42))) := Lib.hid (hU5.alloc _)
              have HshB : Hid (Sh wO (w5.alloc (.cells (stM ++ stM).toArray 42))) := Lib.hid (hsh5.trans (Sh.alloc _ _))
              have H5B := Lib.hid (hb5.later hbB)
              have hzB : M ≤ (w5.alloc (.cells (stM ++ stM).toArray 42)).heap.size := by have := hbB.size; omega
              have Hob : Hid (∀ u ∈ stM ++ stM, u.oneCell' = true) := Lib.hid (by simp [Value.oneCell'])
              clear hk5g hb5 hg5 hs5 hsh5 hzs hU5 hbB c1 c2 HsrcB HsrcA Hoa
              simp only [List.cons_append, List.nil_append] at HsrcB' HBB HkgB HUB HshB H5B hzB Hob
              focus
                go_wp2_with (at_builtin; go_must (refine wpList_append_blk rfl _ _ 34 rfl 42 i1 _ 5 72 Tryz.underlying34 si sz0 sz1 sz2 rfl (by decide) M _ t zs (by rfl) HBB.out _ 2 _ (by decide) (by rfl) HsrcB'.out (by rfl) Hob.out (by omega) (by omega) hzB ?_))
              intro p6 c6 w6 hb6 hg6 hs6
              have hk6g := (hg6.block g (lt_of_block HkgB.out) (blk_ne HBB.out HkgB.out (by decide))).trans HkgB.out
              have H56 := blk_grown H5B.out HBB.out (by decide) hg6
              obtain ⟨g5, cs5, rfl, _, _, hk5, _, _⟩ := H56.at_ (by omega)
              have f0 : w6.cell? ⟨g5, 0, none⟩ = some (.string ovB) := H56.cell (by
                rcases Nat.eq_zero_or_pos k with h0 | h0
                · subst h0
                  obtain rfl : xs = [] := List.eq_nil_of_length_eq_zero (by have := HBA.out.1; omega)
                  rfl
                · rw [List.getElem?_append_left (by rw [HBA.out.1]; omega)]
                  exact Hxs.out 0 h0)
              have hg5r : g5 < w6.heap.size := lt_of_block hk5
              have hg6r : g < w6.heap.size := lt_of_block hk6g
              have hU6 := HUB.out.grown hg6 (fun q hq => .inl (mem_span.2 ⟨blk_lo HBB.out q hq, Hgs.out q hq⟩))
              have hsh6 := HshB.out.trans hs6
              have hL6 := HL.out.keep hsh6 (hk6g.trans Hcg.out.symm)
              have hsz : i * 3 + 3 ≤ cg.size := by
                obtain ⟨_, _, _, cs', h4', h5', _⟩ := HL.out
                rw [Hcg.out] at h4'
                cases h4'
                omega
              have hat : ∀ q, q < 3 → w6.cell? ⟨g, i * 3 + q, none⟩ = some (cg[i * 3 + q]?.getD undef) := fun q hq => by
                rw [cell_in hk6g, Array.getElem?_eq_getElem (by omega)]
                rfl
              have q0 := hat 0 (by omega)
              have q1 := hat 1 (by omega)
              have q2 := hat 2 (by omega)
              rw [Nat.add_zero] at q0
              have r0 : w6.frozen? ⟨g, i * 3, none⟩ = false := free_in hk6g
              have r1 : w6.frozen? ⟨g, i * 3 + 1, none⟩ = false := free_in hk6g
              have r2 : w6.frozen? ⟨g, i * 3 + 2, none⟩ = false := free_in hk6g
              generalize cg[i * 3]?.getD undef = o0 at q0
              generalize cg[i * 3 + 1]?.getD undef = o1 at q1
              generalize cg[i * 3 + 2]?.getD undef = o2 at q2
              have HF : Hid (∀ vs : List Value, vs.length = 3 → LeftMv M M2 (w6.setCells g (i * 3) vs) g n c (i + 1) ∧ Upd (span M M2) w (w6.setCells g (i * 3) vs)) := Lib.hid fun vs hv => ⟨hL6.put vs hv, upd_setCells (.inl (mem_span.2 ⟨hMg, hgM⟩)) _ _ _ hU6⟩
              clear hat hk6g hb6 hg6 hs6 H56 hk5 hU6 hsh6 hL6 hsz e2
              go_wp2_with fail
              go_roundw
              case rel => exact ⟨i + 1, by omega, by go_num, Lib.hid (HF.out [_, _, _] rfl).1, Lib.hid (HF.out [_, _, _] rfl).2⟩
              case measure => simp [intOf]; omega
    · obtain rfl : i = n := by omega
      go_wp2_with fail
      go_end0
      exact ⟨rfl, HU.out⟩
end Go.Proofs.YthjcifokmcbaoaaGreatDoor.st
/- Plain facts on the six moves: they may be, and they ascend. No walk; no conditions. -/
namespace Go.Proofs.YthjcifokmcbaoaaGreatDoor.st
open Go.ChangeShapes Go.WideShapes Go.ChangeAt Go.RowKit gl ls

def spSzB (s : Sp) : Bool := decide (s.table.length ≤ 2147483647) && decide (s.key.length ≤ 2147483647) && decide (s.to.length ≤ 2147483647) && decide (s.text.length ≤ 2147483647)
def needB (m : Mv) (i : Nat) : Bool := match m.needs[i]? with
  | none => true
  | some n => wordL n && decide (n ≠ m.id) && (decide (i = 0) || match m.needs[i - 1]? with
    | none => true
    | some q => ltL q n)
def goodB (m : Mv) : Bool := wordL m.id && decide (m.needs.length ≤ 8) && decide (1 ≤ m.steps.length) && decide (m.steps.length ≤ 16) && (List.range m.needs.length).all (needB m) && m.steps.all fun s => rightL s && !ownS s && spSzB s
theorem good_mv {m : Mv} (h : goodB m = true) : GoodMv m := by
  unfold goodB at h
  simp only [Bool.and_eq_true, decide_eq_true_eq, List.all_eq_true, List.mem_range, Bool.not_eq_true'] at h
  obtain ⟨⟨⟨⟨⟨h1, h2⟩, h3⟩, h4⟩, h5⟩, h6⟩ := h
  refine ⟨h1, h2, h3, h4, fun i n hn => ?_, fun s hs => ?_⟩
  · have h := h5 i (lt_get hn)
    unfold needB at h
    rw [hn] at h
    simp only [Bool.and_eq_true, Bool.or_eq_true, decide_eq_true_eq] at h
    obtain ⟨⟨a, b⟩, c⟩ := h
    refine ⟨a, b, fun q hi hq => ?_⟩
    rcases c with c | c
    · omega
    · rw [hq] at c
      exact c
  · obtain ⟨⟨a, b⟩, c⟩ := h6 s hs
    unfold spSzB at c
    simp only [Bool.and_eq_true, decide_eq_true_eq] at c
    obtain ⟨⟨⟨c1, c2⟩, c3⟩, c4⟩ := c
    exact ⟨a, b, c1, c2, c3, c4⟩
theorem base_goodB : (baseL.all goodB) = true := by decide +kernel
theorem base_good : ∀ m ∈ baseL, GoodMv m := fun m hm => good_mv (List.all_eq_true.1 base_goodB m hm)
def ascB2 : List (List UInt8) → Bool
  | [] => true
  | a :: r => (r.all fun b => ltL a b) && ascB2 r
theorem asc_mv : ∀ l : List (List UInt8), ascB2 l = true → l.Pairwise fun a b => ltL a b = true
  | [], _ => List.Pairwise.nil
  | a :: r, h => by
    unfold ascB2 at h
    simp only [Bool.and_eq_true, List.all_eq_true] at h
    exact List.Pairwise.cons h.1 (asc_mv r h.2)
theorem base_asc : AscMv baseL := asc_mv _ (by decide +kernel)
theorem asc_take {l : List Mv} {i : Nat} {m : Mv} (h : AscMv l) (hm : l[i]? = some m) : AscMv (l.take i) ∧ ∀ x ∈ l.take i, ltL x.id m.id = true := by
  refine ⟨?_, fun x hx => ?_⟩
  · unfold AscMv
    rw [List.map_take]
    exact List.Pairwise.sublist (List.take_sublist _ _) h
  · obtain ⟨j, hj⟩ := List.getElem?_of_mem hx
    have hji : j < i := by
      have := lt_get hj
      rw [List.length_take] at this
      omega
    rw [List.getElem?_take_of_lt hji] at hj
    have a : (l.map (·.id))[j]? = some x.id := by rw [List.getElem?_map, hj]; rfl
    have b : (l.map (·.id))[i]? = some m.id := by rw [List.getElem?_map, hm]; rfl
    exact pair_at (S := fun a b => ltL a b = true) h a b hji
theorem low_1000 : ∀ x ∈ baseL, x.needs.length ≤ 1000 ∧ x.steps.length ≤ 1000 := by
  intro x hx
  have h := base_good x hx
  exact ⟨Nat.le_trans h.few (by decide), Nat.le_trans h.most (by decide)⟩
end Go.Proofs.YthjcifokmcbaoaaGreatDoor.st
