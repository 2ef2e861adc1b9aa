/- Laws and contracts on which the statement rests, part D: each text says what it proves, and its conditions. -/
import Derived.WalkKit
import Derived.Deep.RegionLaw
import Derived.Conc.MuLone
import Derived.Lib.Hide
import Derived.Test.YtpfhhaonfbfheaaGreatDoorMgC
import Derived.Shelf.SlicesE.Clone
import Derived.Shelf.GgClosure.Gives
import Derived.Deep.DeepCutAuto
import Derived.Test.YtpfhhaonfbfheaaGreatDoorChecked
import Derived.Laws.StructEq
import Derived.Test.YtpfhhaonfbfheaaGreatDoorMgA
import Derived.Test.YtpfhhaonfbfheaaGreatDoorMgB
import Derived.Deep.RegionHeld3
import Derived.Laws.Small
/- A law for any program: a call of a Go function as one step of a region that draws its order. No program in sight; no conditions beside those stated. -/
namespace Go.Proofs.YtpfhhaonfbfheaaGreatDoor
open Go.RowKit
section
variable {P : Program}
/-- A function that has a Go body is entered. -/
theorem enters {f : FuncId} {fn : Func} (hf : P.funcs[f]? = some fn) (hname : (fn.name == "runtime.NumGoroutine") = false) (hb : fn.body.isSome = true) (args : Array Value) (w : World) : (callFunc f args).run P w = .ok (.enter f args) w := by
  obtain ⟨c, hc⟩ := Option.isSome_iff_exists.1 hb
  exact MuLone.run_callFunc_enter hf hname hc args w
/-- A call, as a step. -/
theorem step_call {ops : Array Oper} {o : Oper} {a : Act} {w : World} {K : Act → World → Prop} {Q : Exit → Act → World → Prop} {E : Prop} (hgd : o.guard = none) (f : FuncId) (xs : Array Operand) (ts : Array TypeId)
    (ho : o.op = .call { callee := .value (.func f), args := xs, argTypes := ts }) (eg : ∀ args w, (callFunc f args).run P w = .ok (.enter f args) w) (args : Array Value) (hargs' : xs.toList.map a.eval = args.toList) (v : Value) (R : World → Prop)
    (hc : Calls P f args w fun e w' => e = .returned v ∧ R w') (hK : ∀ w', R w' → K (a.put o.dst v) w') :
    if Region.wanted o (yielded ops a.tmps) = true then Oper.wp P o a w K Q else E := by
  have hargs : xs.map a.eval = args := by
    apply Array.ext'
    rw [Array.toList_map]
    exact hargs'
  have hw : Region.wanted o (yielded ops a.tmps) = true := by simp [Region.wanted, hgd]
  rw [if_pos hw]
  have hrun : (execOp a.eval o).run P w = .ok (.enter f args) w := by
    simp only [execOp, ho]
    have h1 : a.eval (.func f) = .func (.func f) #[] #[] := rfl
    simp only [resolve, h1, hargs]
    have := eg args w
    simpa [invoke, go_sem] using this
  unfold Oper.wp
  rw [hrun, Oper.upon_enter]
  refine hc.mono fun e w' h => ?_
  obtain ⟨rfl, h⟩ := h
  exact hK w' h
/-- A call that returns or panics, as a step. -/
theorem step_call_or {ops : Array Oper} {o : Oper} {a : Act} {w : World} {K : Act → World → Prop} {Q : Exit → Act → World → Prop} {E : Prop} (hgd : o.guard = none) (f : FuncId) (xs : Array Operand) (ts : Array TypeId)
    (ho : o.op = .call { callee := .value (.func f), args := xs, argTypes := ts }) (eg : ∀ args w, (callFunc f args).run P w = .ok (.enter f args) w) (args : Array Value) (hargs' : xs.toList.map a.eval = args.toList) (e0 : Ending) (chain : List PanicEntry) (he0 : e0 = .panicked chain) (v : Value) (R R2 : World → Prop)
    (hc : Calls P f args w fun e w' => (e = e0 ∧ R w') ∨ (e = .returned v ∧ R2 w')) (hQ : ∀ w', R w' → Q (.panic chain) a w') (hK : ∀ w', R2 w' → K (a.put o.dst v) w') :
    if Region.wanted o (yielded ops a.tmps) = true then Oper.wp P o a w K Q else E := by
  have hargs : xs.map a.eval = args := by
    apply Array.ext'
    rw [Array.toList_map]
    exact hargs'
  have hw : Region.wanted o (yielded ops a.tmps) = true := by simp [Region.wanted, hgd]
  rw [if_pos hw]
  have hrun : (execOp a.eval o).run P w = .ok (.enter f args) w := by
    simp only [execOp, ho]
    have h1 : a.eval (.func f) = .func (.func f) #[] #[] := rfl
    simp only [resolve, h1, hargs]
    have := eg args w
    simpa [invoke, go_sem] using this
  unfold Oper.wp
  rw [hrun, Oper.upon_enter]
  refine hc.mono fun e w' h => ?_
  rcases h with ⟨rfl, h⟩ | ⟨rfl, h⟩
  · subst he0
    exact hQ w' h
  · exact hK w' h
end
end Go.Proofs.YtpfhhaonfbfheaaGreatDoor
/- Package key: the definition of a name, of a letter. Conditions: the set lies in memory as its list. -/
namespace Go.Proofs.YtpfhhaonfbfheaaGreatDoor.ky
open Go.ChangeShapes Go.WideShapes Go.ChangeAt Go.RowKit gl va ls

def foundV : Option Ky → Value
  | some x => .tuple #[kyV x, .bool true]
  | none => .tuple #[kyV zK, .bool false]
def idxI : Option Nat → Int
  | some k => k
  | none => -1
theorem results_cell_row2 {P : Program} {fn : Func} {p u : Tmp} {ty : TypeId} (h : fn.results = #[.cell p ty, .tmp u]) (tmps : Array Value) (w : World) (g : Nat) (t : TypeId) (cs : Array Value) (fr : Nat × Nat) (d : TypeDesc)
    (hp : tmps.getD p undef = .pointer (some ⟨g, 0, none⟩)) (hg : w.heap[g]? = some (.cells cs t fr))
    (hu : P.underlying ty = some d) (hd : (match d with | .struct _ | .array _ _ => true | _ => false) = true) (hi : (P.info? ty).map (·.size) = some cs.size) :
    (results fn tmps).run P w = .ok (.tuple #[.agg cs, tmps.getD u undef]) w := by
  have hp' : tmps[p]?.getD undef = .pointer (some ⟨g, 0, none⟩) := by simpa using hp
  simp [results, h, hp', asAddr, run_loadVar_row w g t ty cs fr d hg hu hd hi]
/-- A definition stored into a block. -/
theorem stored {w : World} {g : Nat} {c0 c1 c2 c3 c4 c5 : Value} (h : w.heap[g]? = some (.cells #[c0, c1, c2, c3, c4, c5] 62 (0, 0))) (v0 v1 v2 v3 v4 v5 : Value) :
    ((((((w.setCell ⟨g, 0, none⟩ v0).setCell ⟨g, 1, none⟩ v1).setCell ⟨g, 2, none⟩ v2).setCell ⟨g, 3, none⟩ v3).setCell ⟨g, 4, none⟩ v4).setCell ⟨g, 5, none⟩ v5).heap[g]? = some (.cells #[v0, v1, v2, v3, v4, v5] 62 (0, 0)) :=
  heap_set (o := 5) (heap_set (o := 4) (heap_set (o := 3) (heap_set (o := 2) (heap_set (o := 1) (heap_set (o := 0) h v0) v1) v2) v3) v4) v5
theorem stored_bel {w w1 : World} {B g : Nat} (h : Below B w w1) (hg : B ≤ g) (v0 v1 v2 v3 v4 v5 : Value) :
    Below B w ((((((w1.setCell ⟨g, 0, none⟩ v0).setCell ⟨g, 1, none⟩ v1).setCell ⟨g, 2, none⟩ v2).setCell ⟨g, 3, none⟩ v3).setCell ⟨g, 4, none⟩ v4).setCell ⟨g, 5, none⟩ v5) :=
  (((((h.setCell (p := ⟨g, 0, none⟩) hg v0).setCell (p := ⟨g, 1, none⟩) hg v1).setCell (p := ⟨g, 2, none⟩) hg v2).setCell (p := ⟨g, 3, none⟩) hg v3).setCell (p := ⟨g, 4, none⟩) hg v4).setCell (p := ⟨g, 5, none⟩) hg v5
def fL (t : List UInt8) (x : Ky) : Bool := !decide (t = []) && decide (x.letter = t)
theorem find_idx (p : Ky → Bool) : ∀ S : List Ky, (S.findIdx? p = none → S.find? p = none) ∧ ∀ k, S.findIdx? p = some k → ∃ x, S[k]? = some x ∧ S.find? p = some x
  | [] => ⟨fun _ => rfl, fun k h => by simp at h⟩
  | y :: r => by
    obtain ⟨h1, h2⟩ := find_idx p r
    rw [List.findIdx?_cons, List.find?_cons]
    cases hy : p y with
    | true => exact ⟨fun h => by simp at h, fun k h => by simp at h; subst h; exact ⟨y, rfl, rfl⟩⟩
    | false =>
      refine ⟨fun h => h1 (by simpa using h), fun k h => ?_⟩
      simp only [Bool.false_eq_true, if_false, Option.map_eq_some_iff] at h
      obtain ⟨j, hj, rfl⟩ := h
      obtain ⟨x, hx, hf⟩ := h2 j hj
      exact ⟨x, by simpa using hx, hf⟩
theorem lett_find (S : List Ky) (t : List UInt8) : lettK S t = S.find? (fL t) := by
  unfold lettK fL
  by_cases h : t = []
  · rw [if_pos h]
    symm
    rw [List.find?_eq_none]
    intro x _
    simp [h]
  · rw [if_neg h]
    congr 1
    funext x
    simp [h]
theorem idxF_none (p : Option Addr) (c : Nat) (g : Nat) (lb : Array Value) (w : World) : Calls Tryz.prog 64 #[.slice p 0 c, .func (.func g) #[] lb] w fun e w' => e = .returned (.int .i64 (-1)) ∧ w = w' := by
  go_enter Tryz.func64, Tryz.ntmps64
  go_wp2_with fail
  refine wp_loop_rounds 1 ?_
  rw [rounds_succ]
  go_wp2_with fail
  go_ret
  exact ⟨rfl, rfl⟩
instance : Inhabited Ky := ⟨zK⟩
theorem idx_any (f : Ky → Bool) (g : Nat) (lb : Array Value) (eg : ∀ args w, (callFunc g args).run Tryz.prog w = .ok (.enter g args) w) (p : Option Addr) (m c : Nat) (l : List Ky) (hm : m ≤ 4294967295) (w : World) (h : rw.Rw kyC 6 w (.slice p m c) l)
    (hp : ∀ (W : World) (x : Ky), Below w.heap.size w W → Calls Tryz.prog g (#[.agg #[.string (B x.name), .int .i64 x.kind, .string (B x.dflt), .int .i64 x.least, .int .i64 x.most, .string (B x.letter)]] ++ lb) W fun e w' => e = .returned (.bool (f x)) ∧ Below w.heap.size w w') :
    Calls Tryz.prog 64 #[.slice p m c, .func (.func g) #[] lb] w fun e w' => e = .returned (.int .i64 (idxI (l.findIdx? f))) ∧ Below w.heap.size w w' := by
  obtain ⟨hlen, hmc, hptr⟩ := h.ptr
  rcases Nat.eq_zero_or_pos m with h0 | h0
  · subst h0
    obtain rfl : l = [] := List.length_eq_zero_iff.1 hlen
    refine (idxF_none p c g lb w).mono ?_
    rintro e w' ⟨rfl, rfl⟩
    exact ⟨rfl, Below.refl _ _⟩
  · obtain ⟨b, o, rfl, hb⟩ := hptr h0
    refine (AnyQ.slices_IndexFunc Tryz.idxKy 6 Tryz.isAgg62 Tryz.sizeOf62 kyC kyC_len f g lb eg b o m c l w hp (by omega) (by omega) hb (fun j hj i v hv => ?_)).mono ?_
    · rw [getElem!_pos l j hj] at hv
      have := h.cell (List.getElem?_eq_getElem hj) hv
      rw [Nat.add_assoc]
      exact this
    · rintro e w' ⟨rfl, hb'⟩
      refine ⟨?_, hb'⟩
      have ht : l.take m = l := by rw [← hlen]; exact List.take_length
      rw [ht]
      have hi : ∀ (r : List Ky) (i : Nat), Lib.idxByFrom (fun _ y => f y) default r i = match r.findIdx? f with | some k => ((i + k : Nat) : Int) | none => -1 := by
        intro r
        induction r with
        | nil => intro i; rfl
        | cons y r ih =>
          intro i
          rw [Lib.idxByFrom, List.findIdx?_cons]
          cases hy : f y with
          | true => simp
          | false =>
            rw [if_neg (by simp), if_neg (by simp), ih (i + 1)]
            cases r.findIdx? f with
            | none => rfl
            | some k => show ((i + 1 + k : Nat) : Int) = ((i + (k + 1) : Nat) : Int); congr 1; omega
      have hi0 : Lib.idxBy (fun _ y => f y) l default = idxI (l.findIdx? f) := by
        rw [Lib.idxBy, hi l 0]
        unfold idxI
        cases l.findIdx? f with
        | none => rfl
        | some k => simp
      rw [hi0]
theorem str_eq (l m : List UInt8) : ((B l).toList == (B m).toList) = decide (l = m) := by
  rw [ByteArray.toList_eq, ByteArray.toList_eq, Bool.eq_iff_iff, beq_iff_eq, decide_eq_true_iff]
  try simp
set_option maxHeartbeats 1000000 in
theorem letter1_any (x : Ky) (t : List UInt8) (bt : Nat) (w : World) (h1 : w.cell? ⟨bt, 0, none⟩ = some (.string (B t))) :
    Calls Tryz.prog 65 #[.agg #[.string (B x.name), .int .i64 x.kind, .string (B x.dflt), .int .i64 x.least, .int .i64 x.most, .string (B x.letter)], .pointer (some ⟨bt, 0, none⟩)] w fun e w' => e = .returned (.bool (fL t x)) ∧ Below w.heap.size w w' := by
  have hbt : bt < w.heap.size := World.block_lt_of_cell? _ _ h1
  have e1 := str_eq x.letter t
  have e2 : ((B t).toList == (⟨#[]⟩ : ByteArray).toList) = decide (t = []) := str_eq t []
  have e3 : ((B t).toList != (⟨#[]⟩ : ByteArray).toList) = !decide (t = []) := by rw [bne, e2]
  have e4 : (B t).toList.isEmpty = decide (t = []) := by rw [ByteArray.toList_eq]; cases t <;> simp
  have hr : Hid (∀ a b : Bool, decide (t = []) = a → decide (x.letter = t) = b → fL t x = (!a && b)) := Lib.hid fun a b h h' => by unfold fL; rw [h, h']
  have hb : Below w.heap.size w (w.alloc (.cells #[.string (B x.name), .int .i64 x.kind, .string (B x.dflt), .int .i64 x.least, .int .i64 x.most, .string (B x.letter)] 62)) := (Below.refl _ _).alloc (Nat.le_refl _) _
  have Hb := Lib.hid hb
  clear hb
  obtain ⟨a, ha⟩ : ∃ a, decide (t = []) = a := ⟨_, rfl⟩
  obtain ⟨b, hb⟩ : ∃ b, decide (x.letter = t) = b := ⟨_, rfl⟩
  rw [hr.out a b ha hb]
  rw [ha] at e2 e3 e4
  rw [hb] at e1
  clear ha hb hr
  generalize B t = tt at *
  generalize B x.name = nm at *
  generalize B x.dflt = df at *
  generalize B x.letter = lt at *
  cases a <;> cases b
  all_goals
    go_enter Tryz.func65, Tryz.ntmps65
    go_wp2_with fail
    go_ret
    exact ⟨rfl, Hb.out⟩
theorem eg65 (args : Array Value) (w : World) : (callFunc 65 args).run Tryz.prog w = .ok (.enter 65 args) w := enters Tryz.func65 (by kernel_rfl) (by kernel_rfl) args w
theorem SetK.form {M : Nat} {w : World} {b : Nat} {S : List Ky} (h : SetK M w b S) : ∃ p c, w.heap[b]? = some (.cells #[.slice p S.length c] 85 (0, 0)) ∧ rw.Rw kyC 6 w (.slice p S.length c) S := by
  obtain ⟨_, _, _, _, v, hv, hB⟩ := h
  obtain ⟨p, c, rfl⟩ := hB.form
  exact ⟨p, c, hv, blk_rw hB⟩
set_option maxHeartbeats 4000000 in
set_option maxRecDepth 100000 in
theorem Find_any (M b : Nat) (S : List Ky) (t : List UInt8) (w : World) (hS : SetK M w b S) :
    Calls Tryz.prog 40 #[.pointer (some ⟨b, 0, none⟩), .string (B t)] w fun e w' => e = .returned (foundV (findK S t)) ∧ Below w.heap.size w w' := by
  obtain ⟨wA, hA⟩ : ∃ wA, wA = w.alloc (.cells #[.string ⟨#[]⟩, .int .i64 0, .string ⟨#[]⟩, .int .i64 0, .int .i64 0, .string ⟨#[]⟩] 62) := ⟨_, rfl⟩
  have kA : wA.heap[w.heap.size]? = some (.cells #[.string ⟨#[]⟩, .int .i64 0, .string ⟨#[]⟩, .int .i64 0, .int .i64 0, .string ⟨#[]⟩] 62 (0, 0)) := by rw [hA]; exact heap_alloc_new w _
  have hbA : Below w.heap.size w wA := by rw [hA]; exact (Below.refl _ _).alloc (Nat.le_refl _) _
  obtain ⟨p, c, hblk, hrw⟩ := hS.form
  have HF := Lib.hid (found_any M b S t wA (hS.later hbA))
  have HP := Lib.hid hrw.ptr.2.2
  have HR := Lib.hid hrw
  have HkA := Lib.hid kA
  have HbA := Lib.hid hbA
  have HA := Lib.hid hA
  have Hblk := Lib.hid hblk
  have HS := Lib.hid hS
  have hlen := hS.len
  clear kA hbA hA hrw hblk hS
  have Htt := Lib.hid (show B t = B t from rfl)
  generalize htt : B t = tt at *
  clear htt Htt
  go_enter Tryz.func40, Tryz.ntmps40
  go_wp2_with fail
  rw [← HA.out]
  refine HF.out.mono ?_
  rintro e w1 ⟨⟨k, is, rfl, hFo⟩, hb1⟩
  have HFF := Lib.hid (found_find HS.out.asc hFo)
  have Hb1 := Lib.hid (then_bel HbA.out hb1)
  have hk1 := (hb1.block _ (lt_of_block HkA.out)).trans HkA.out
  clear hFo
  have a0 : w1.cell? ⟨w.heap.size, 0, none⟩ = some (.string ⟨#[]⟩) := cell_in hk1
  have a1 : w1.cell? ⟨w.heap.size, 1, none⟩ = some (.int .i64 0) := cell_in hk1
  have a2 : w1.cell? ⟨w.heap.size, 2, none⟩ = some (.string ⟨#[]⟩) := cell_in hk1
  have a3 : w1.cell? ⟨w.heap.size, 3, none⟩ = some (.int .i64 0) := cell_in hk1
  have a4 : w1.cell? ⟨w.heap.size, 4, none⟩ = some (.int .i64 0) := cell_in hk1
  have a5 : w1.cell? ⟨w.heap.size, 5, none⟩ = some (.string ⟨#[]⟩) := cell_in hk1
  have f0 : w1.frozen? ⟨w.heap.size, 0, none⟩ = false := free_in hk1
  have f1 : w1.frozen? ⟨w.heap.size, 1, none⟩ = false := free_in hk1
  have f2 : w1.frozen? ⟨w.heap.size, 2, none⟩ = false := free_in hk1
  have f3 : w1.frozen? ⟨w.heap.size, 3, none⟩ = false := free_in hk1
  have f4 : w1.frozen? ⟨w.heap.size, 4, none⟩ = false := free_in hk1
  have f5 : w1.frozen? ⟨w.heap.size, 5, none⟩ = false := free_in hk1
  have hgw1 : w.heap.size < w1.heap.size := lt_of_block hk1
  cases is with
  | false =>
    have Hf := Lib.hid (HFF.out.2 rfl)
    have Hk2 := Lib.hid (stored hk1 (.string ⟨#[]⟩) (.int .i64 0) (.string ⟨#[]⟩) (.int .i64 0) (.int .i64 0) (.string ⟨#[]⟩))
    clear hk1 hb1
    go_wp2_with fail
    refine bodyPost_ret (results_cell_row2 rfl _ _ (w.heap.size) 62 _ _ _ rfl Hk2.out Tryz.underlying62 rfl (by kernel_rfl)) rfl ?_
    refine ⟨?_, stored_bel Hb1.out (by omega) _ _ _ _ _ _⟩
    rw [Hf.out]
    rfl
  | true =>
    obtain ⟨x, hx, hf⟩ := HFF.out.1 rfl
    have Hf := Lib.hid hf
    clear hf
    have hkl : k < S.length := lt_get hx
    obtain ⟨bp, op, rfl, hbp⟩ := HP.out (by omega)
    obtain ⟨k0, k1, k2, k3, k4, k5⟩ := ky_cells (HR.out.later Hb1.out) hx
    have c0 : w1.cell? ⟨b, 0, none⟩ = some (.slice (some ⟨bp, op, none⟩) S.length c) := cell_in ((Hb1.out.block b (lt_of_block Hblk.out)).trans Hblk.out)
    have hbw : b < w1.heap.size := by have := lt_of_block Hblk.out; have := Hb1.out.size; omega
    have hbr : bp < w1.heap.size := by have := Hb1.out.size; omega
    have hki : (k : Int) < (S.length : Int) := by omega
    have hk5 : (0 : Int) ≤ (k : Int) := by omega
    have Hk2 := Lib.hid (stored hk1 (.string (B x.name)) (.int .i64 x.kind) (.string (B x.dflt)) (.int .i64 x.least) (.int .i64 x.most) (.string (B x.letter)))
    have HV : Hid (foundV (some x) = .tuple #[.agg #[.string (B x.name), .int .i64 x.kind, .string (B x.dflt), .int .i64 x.least, .int .i64 x.most, .string (B x.letter)], .bool true]) := Lib.hid rfl
    clear hk1 hb1 hx hkl
    generalize B x.name = nm at *
    generalize B x.dflt = df at *
    generalize B x.letter = lt at *
    generalize x.kind = kk at *
    generalize x.least = le at *
    generalize x.most = mo at *
    go_wp2_with fail
    refine bodyPost_ret (results_cell_row2 rfl _ _ (w.heap.size) 62 _ _ _ rfl Hk2.out Tryz.underlying62 rfl (by kernel_rfl)) rfl ?_
    refine ⟨?_, stored_bel Hb1.out (by omega) _ _ _ _ _ _⟩
    rw [Hf.out, HV.out]
    rfl
end Go.Proofs.YtpfhhaonfbfheaaGreatDoor.ky
/- Package key: the definition of a letter. Conditions: the set lies in memory as its list. -/
namespace Go.Proofs.YtpfhhaonfbfheaaGreatDoor.ky
open Go.ChangeShapes Go.WideShapes Go.ChangeAt Go.RowKit gl va ls

set_option maxHeartbeats 4000000 in
set_option maxRecDepth 100000 in
theorem Letter_any (M b : Nat) (S : List Ky) (t : List UInt8) (w : World) (hS : SetK M w b S) :
    Calls Tryz.prog 42 #[.pointer (some ⟨b, 0, none⟩), .string (B t)] w fun e w' => e = .returned (foundV (lettK S t)) ∧ Below w.heap.size w w' := by
  rw [lett_find]
  obtain ⟨wA, hA⟩ : ∃ wA, wA = (w.alloc (.cells #[.string (B t)] 9)).alloc (.cells #[.string ⟨#[]⟩, .int .i64 0, .string ⟨#[]⟩, .int .i64 0, .int .i64 0, .string ⟨#[]⟩] 62) := ⟨_, rfl⟩
  have tA : wA.heap[w.heap.size]? = some (.cells #[.string (B t)] 9 (0, 0)) := by
    rw [hA]
    exact (((Below.refl _ (w.alloc (.cells #[.string (B t)] 9))).alloc (Nat.le_refl _) _).block w.heap.size (by simp)).trans (heap_alloc_new w _)
  have kA : wA.heap[w.heap.size + 1]? = some (.cells #[.string ⟨#[]⟩, .int .i64 0, .string ⟨#[]⟩, .int .i64 0, .int .i64 0, .string ⟨#[]⟩] 62 (0, 0)) := by
    have h := heap_alloc_new (w.alloc (.cells #[.string (B t)] 9)) (.cells #[.string ⟨#[]⟩, .int .i64 0, .string ⟨#[]⟩, .int .i64 0, .int .i64 0, .string ⟨#[]⟩] 62)
    rw [World.size_alloc] at h
    rw [hA]; exact h
  have hbA : Below w.heap.size w wA := by rw [hA]; exact ((Below.refl _ _).alloc (Nat.le_refl _) _).alloc (by simp) _
  obtain ⟨p, c, hblk, hrw⟩ := hS.form
  have HF := Lib.hid (idx_any (fL t) 65 #[.pointer (some ⟨w.heap.size, 0, none⟩)] eg65 p S.length c S (by have := hS.len; omega) wA (hrw.later hbA) (fun W x hW => by
    have hc : W.cell? ⟨w.heap.size, 0, none⟩ = some (.string (B t)) := (hW.cell (p := ⟨w.heap.size, 0, none⟩) (lt_of_block tA)).trans (cell_in tA)
    exact (letter1_any x t w.heap.size W hc).mono fun e w' h => ⟨h.1, then_bel hW h.2⟩))
  have HP := Lib.hid hrw.ptr.2.2
  have HR := Lib.hid hrw
  have HkA := Lib.hid kA
  have HbA := Lib.hid hbA
  have HA := Lib.hid hA
  have Hblk := Lib.hid hblk
  have HFI := Lib.hid (find_idx (fL t) S)
  have c00 : w.cell? ⟨b, 0, none⟩ = some (.slice p S.length c) := cell_in hblk
  have hbA' : b < w.heap.size := lt_of_block hblk
  have hlen := hS.len
  clear kA hbA hA hrw hblk hS tA
  generalize htt : B t = tt at *
  clear htt
  go_enter Tryz.func42, Tryz.ntmps42
  go_wp2_with fail
  rw [← HA.out]
  refine HF.out.mono ?_
  rintro e w1 ⟨rfl, hb1⟩
  have Hb1 := Lib.hid (then_bel HbA.out hb1)
  have hk1 := (hb1.block _ (lt_of_block HkA.out)).trans HkA.out
  clear c00
  have a0 : w1.cell? ⟨w.heap.size + 1, 0, none⟩ = some (.string ⟨#[]⟩) := cell_in hk1
  have a1 : w1.cell? ⟨w.heap.size + 1, 1, none⟩ = some (.int .i64 0) := cell_in hk1
  have a2 : w1.cell? ⟨w.heap.size + 1, 2, none⟩ = some (.string ⟨#[]⟩) := cell_in hk1
  have a3 : w1.cell? ⟨w.heap.size + 1, 3, none⟩ = some (.int .i64 0) := cell_in hk1
  have a4 : w1.cell? ⟨w.heap.size + 1, 4, none⟩ = some (.int .i64 0) := cell_in hk1
  have a5 : w1.cell? ⟨w.heap.size + 1, 5, none⟩ = some (.string ⟨#[]⟩) := cell_in hk1
  have f0 : w1.frozen? ⟨w.heap.size + 1, 0, none⟩ = false := free_in hk1
  have f1 : w1.frozen? ⟨w.heap.size + 1, 1, none⟩ = false := free_in hk1
  have f2 : w1.frozen? ⟨w.heap.size + 1, 2, none⟩ = false := free_in hk1
  have f3 : w1.frozen? ⟨w.heap.size + 1, 3, none⟩ = false := free_in hk1
  have f4 : w1.frozen? ⟨w.heap.size + 1, 4, none⟩ = false := free_in hk1
  have f5 : w1.frozen? ⟨w.heap.size + 1, 5, none⟩ = false := free_in hk1
  have hgw1 : w.heap.size + 1 < w1.heap.size := lt_of_block hk1
  rcases hi : S.findIdx? (fL t) with _ | k
  · have Hf := Lib.hid (HFI.out.1 hi)
    have hz : idxI (none : Option Nat) = -1 := rfl
    rw [hz]
    clear hi hz
    have Hk2 := Lib.hid (stored hk1 (.string ⟨#[]⟩) (.int .i64 0) (.string ⟨#[]⟩) (.int .i64 0) (.int .i64 0) (.string ⟨#[]⟩))
    clear hk1 hb1
    go_wp2_with fail
    refine bodyPost_ret (results_cell_row2 rfl _ _ (w.heap.size + 1) 62 _ _ _ rfl Hk2.out Tryz.underlying62 rfl (by kernel_rfl)) rfl ?_
    refine ⟨?_, stored_bel Hb1.out (by omega) _ _ _ _ _ _⟩
    rw [Hf.out]
    rfl
  · obtain ⟨x, hx, hf⟩ := HFI.out.2 k hi
    have Hf := Lib.hid hf
    have hz : idxI (some k) = (k : Int) := rfl
    rw [hz]
    clear hf hi hz
    have hkl : k < S.length := lt_get hx
    obtain ⟨bp, op, rfl, hbp⟩ := HP.out (by omega)
    obtain ⟨k0, k1, k2, k3, k4, k5⟩ := ky_cells (HR.out.later Hb1.out) hx
    have c0 : w1.cell? ⟨b, 0, none⟩ = some (.slice (some ⟨bp, op, none⟩) S.length c) := cell_in ((Hb1.out.block b (lt_of_block Hblk.out)).trans Hblk.out)
    have hbw : b < w1.heap.size := by have := lt_of_block Hblk.out; have := Hb1.out.size; omega
    have hbr : bp < w1.heap.size := by have := Hb1.out.size; omega
    have hki : (k : Int) < (S.length : Int) := by omega
    have hk5 : (0 : Int) ≤ (k : Int) := by omega
    have hlt0 : decide ((k : Int) < 0) = false := by simp
    have hlt1 : ¬ ((k : Int) < 0) := by omega
    have Hk2 := Lib.hid (stored hk1 (.string (B x.name)) (.int .i64 x.kind) (.string (B x.dflt)) (.int .i64 x.least) (.int .i64 x.most) (.string (B x.letter)))
    have HV : Hid (foundV (some x) = .tuple #[.agg #[.string (B x.name), .int .i64 x.kind, .string (B x.dflt), .int .i64 x.least, .int .i64 x.most, .string (B x.letter)], .bool true]) := Lib.hid rfl
    clear hk1 hb1 hx hkl
    generalize B x.name = nm at *
    generalize B x.dflt = df at *
    generalize B x.letter = lt at *
    generalize x.kind = kk at *
    generalize x.least = le at *
    generalize x.most = mo at *
    go_wp2_with fail
    refine bodyPost_ret (results_cell_row2 rfl _ _ (w.heap.size + 1) 62 _ _ _ rfl Hk2.out Tryz.underlying62 rfl (by kernel_rfl)) rfl ?_
    refine ⟨?_, stored_bel Hb1.out (by omega) _ _ _ _ _ _⟩
    rw [Hf.out, HV.out]
    rfl
end Go.Proofs.YtpfhhaonfbfheaaGreatDoor.ky
/- Laws for any program: a call of a Go function, whatever it gives, as one step of a region that draws its order; slices.Clone of any list. No program in sight; no conditions beside those stated. -/
namespace Go.Proofs.YtpfhhaonfbfheaaGreatDoor
open Go.RowKit
section
variable {P : Program}
/-- A call, as a step. -/
theorem step_callE {ops : Array Oper} {o : Oper} {a : Act} {w : World} {K : Act → World → Prop} {Q : Exit → Act → World → Prop} {E : Prop} (hgd : o.guard = none) (f : FuncId) (xs : Array Operand) (ts : Array TypeId)
    (ho : o.op = .call { callee := .value (.func f), args := xs, argTypes := ts }) (eg : ∀ args w, (callFunc f args).run P w = .ok (.enter f args) w) (args : Array Value) (hargs' : xs.toList.map a.eval = args.toList) (R : Value → World → Prop)
    (hc : Calls P f args w fun e w' => ∃ v, e = .returned v ∧ R v w') (hK : ∀ v w', R v w' → K (a.put o.dst v) w') :
    if Region.wanted o (yielded ops a.tmps) = true then Oper.wp P o a w K Q else E := by
  have hargs : xs.map a.eval = args := by
    apply Array.ext'
    rw [Array.toList_map]
    exact hargs'
  have hw : Region.wanted o (yielded ops a.tmps) = true := by simp [Region.wanted, hgd]
  rw [if_pos hw]
  have hrun : (execOp a.eval o).run P w = .ok (.enter f args) w := by
    simp only [execOp, ho]
    have h1 : a.eval (.func f) = .func (.func f) #[] #[] := rfl
    simp only [resolve, h1, hargs]
    have := eg args w
    simpa [invoke, go_sem] using this
  unfold Oper.wp
  rw [hrun, Oper.upon_enter]
  refine hc.mono fun e w' h => ?_
  obtain ⟨v, rfl, h⟩ := h
  exact hK v w' h
open Go.Shelf ls in
set_option maxRecDepth 100000 in
theorem clone_list {ρ : Ren} (L : SlLaysE0.n41 P ρ) {α : Type} {enc : α → List Value} {k : Nat} (hk : ∀ x, (enc x).length = k) (h1 : ∀ x, ∀ v ∈ enc x, v.oneCell' = true) (hk0 : 0 < k) {z : Value} {bytes : Nat}
    (hi : (P.info? (ρ.t 23)).map (fun i => (i.zero, i.size, i.bytes)) = some (some z, k, bytes)) (hzs : z.cells.size = k) (hby : bytes ≤ 1024) (z23 : ∀ w, (Go.sizeOf (ρ.t 23)).run P w = .ok k w)
    (p : Option Addr) (m c : Nat) (l : List α) (hm : m ≤ 4294967295) (w : World) (h : rw.Rw enc k w (.slice p m c) l) :
    Calls P (ρ.f 41) #[.slice p m c] w fun e w' => ∃ v, e = .returned v ∧ w'.ownsRow w.heap.size (ρ.t 23) k v m (rw.flat enc l) ∧ Below w.heap.size w w' := by
  obtain ⟨hlen, hmc, hptr⟩ := h.ptr
  obtain ⟨i0, hi0, hi1⟩ := Option.map_eq_some_iff.1 hi
  simp only [Prod.mk.injEq] at hi1
  obtain ⟨hz, hs, hb⟩ := hi1
  rcases Nat.eq_zero_or_pos m with h0 | h0
  · subst h0
    obtain rfl : l = [] := List.length_eq_zero_iff.1 hlen
    cases p with
    | none =>
      refine (AnyE.slices_Clone_nil L 0 c w).mono ?_
      rintro e w' ⟨rfl, rfl⟩
      exact ⟨_, rfl, ⟨by simp [rw.flat], .inl ⟨rfl, rfl⟩⟩, Below.refl _ _⟩
    | some a =>
      have mixed := L.mixed; have t4 := L.t4; have a4 := L.a4; have z4 := L.z4; have v4 := L.v4; have t22 := L.t22; have a22 := L.a22; have z22 := L.z22; have v22 := L.v22
      have q22 : ∀ (w : World) (a : Option Addr) (n c n' c' : Nat), (binOp .eql (ρ.t 22) (.slice a n c) (.slice none n' c')).run P w = .ok (.bool a.isNone) w := fun w a n c n' c' => Lib.run_eql_slice_nil w _ _ a n c n' c' L.t22
      have u22 : ∀ w, Sem.run P (underlying (ρ.t 22)) w = .ok (TypeDesc.slice (ρ.t 23)) w := run_underlying t22
      have qs : (some a).isNone = false := rfl
      obtain ⟨_, _, FG⟩ := L.f41
      go_enter FG, SlBodyN.n41_ntmps ρ
      go_wp2_with fail
      go_ret
      exact ⟨_, rfl, World.ownsRow_made w #[] 0 (Nat.le_refl _) (Nat.zero_le _) (by simp), (Below.refl _ _).alloc (Nat.le_refl _) _⟩
  · obtain ⟨b, o, rfl, hbl⟩ := hptr h0
    have hmul : m * bytes ≤ 140737488355328 := Nat.le_trans (Nat.mul_le_mul hm hby) (by decide)
    refine (AnyE.slices_Clone L i0 _ k bytes hi0 hz hs hb hzs hk0 z23 b o m c (rw.flat enc l) w (by rw [rw.flat_len hk, hlen]) (by unfold maxLen; omega) hmul (fun j u hu => ?_) (fun u hu => rw.flat_one h1 l u hu)).mono ?_
    · have hj : j < l.length * k := by have := (List.getElem?_eq_some_iff.1 hu).1; rwa [rw.flat_len hk] at this
      have hq : j / k < l.length := (Nat.div_lt_iff_lt_mul hk0).2 hj
      have hr : j % k < (enc l[j / k]).length := by rw [hk]; exact Nat.mod_lt _ hk0
      have h2 := rw.flat_at hk l (j / k) _ (j % k) _ (List.getElem?_eq_getElem hq) (List.getElem?_eq_getElem hr)
      have he : j / k * k + j % k = j := by rw [Nat.mul_comm]; exact Nat.div_add_mod j k
      rw [he] at h2
      have h3 := h.cell (List.getElem?_eq_getElem hq) (List.getElem?_eq_getElem hr)
      rw [he] at h3
      rw [h3, ← h2]
      exact hu
    · rintro e w' ⟨v, rfl, hv, _, hb'⟩
      exact ⟨v, rfl, hv, hb'⟩
end
end Go.Proofs.YtpfhhaonfbfheaaGreatDoor
/- Package key: All. Conditions: the set lies in memory as its list. -/
namespace Go.Proofs.YtpfhhaonfbfheaaGreatDoor.ky
open Go.ChangeShapes Go.WideShapes Go.ChangeAt Go.RowKit gl va ls

abbrev Kys (w : World) (v : Value) (l : List Ky) : Prop := rw.Rw kyC 6 w v l
abbrev NewKs (M : Nat) (w : World) (v : Value) (l : List Ky) : Prop := rw.NewRw kyC 6 62 M w v l
set_option maxRecDepth 100000 in
theorem clip_any (p : Option Addr) (n c : Nat) (hn : n ≤ c) (hc : n ≤ 4294967295) (w : World) : Calls Tryz.prog 61 #[.slice p n c] w fun e w' => e = .returned (.slice p n n) ∧ w = w' := by
  have h1 : (n : Int) ≤ (c : Int) := by omega
  have h2 : (0 : Int) ≤ (n : Int) := by omega
  go_enter Tryz.func61, Tryz.ntmps61
  go_wp2_with fail
  go_ret
  exact ⟨rfl, rfl⟩
theorem clone_any (p : Option Addr) (m c : Nat) (l : List Ky) (hm : m ≤ 4294967295) (w : World) (h : Kys w (.slice p m c) l) :
    Calls Tryz.prog 62 #[.slice p m c] w fun e w' => (∃ p' c', e = .returned (.slice p' m c') ∧ m ≤ c' ∧ NewKs w.heap.size w' (.slice p' m m) l) ∧ Below w.heap.size w w' := by
  have hl := h.ptr.1
  refine (clone_list Tryz.cloneKy kyC_len kyC_one (by decide) infoK rfl (by decide) Tryz.sizeOf62 p m c l hm w h).mono ?_
  rintro e w' ⟨v, rfl, hv, hb⟩
  have hn := rw.own_new kyC_len (by decide) hv
  obtain ⟨p', c', rfl⟩ := hn.form
  rw [hl] at hn ⊢
  exact ⟨⟨p', c', rfl, (hn.rw kyC_len).ptr.2.1, hn.clip⟩, hb⟩
set_option maxHeartbeats 1000000 in
theorem All_any (M b : Nat) (S : List Ky) (w : World) (hS : SetK M w b S) :
    Calls Tryz.prog 32 #[.pointer (some ⟨b, 0, none⟩)] w fun e w' => (∃ p, e = .returned (.slice p S.length S.length) ∧ NewKs w.heap.size w' (.slice p S.length S.length) S) ∧ Below w.heap.size w w' := by
  obtain ⟨p, c, hblk, hrw⟩ := hS.form
  have c0 : w.cell? ⟨b, 0, none⟩ = some (.slice p S.length c) := cell_in hblk
  have hb : b < w.heap.size := lt_of_block hblk
  have hlen := hS.len
  have HC := Lib.hid (clone_any p S.length c S (by omega) w hrw)
  clear hblk hrw hS
  go_enter Tryz.func32, Tryz.ntmps32
  go_wp2_with fail
  refine HC.out.mono ?_
  rintro e w1 ⟨⟨p1, c1, rfl, hc1, hn1⟩, hb1⟩
  have HN1 := Lib.hid hn1
  have Hb1 := Lib.hid hb1
  clear hn1 hb1
  go_wp2_with fail
  refine (clip_any p1 S.length c1 hc1 (by omega) w1).mono ?_
  rintro e w2 ⟨rfl, rfl⟩
  go_wp2_with fail
  go_ret
  exact ⟨⟨_, rfl, HN1.out⟩, Hb1.out⟩
end Go.Proofs.YtpfhhaonfbfheaaGreatDoor.ky
/- Package env: what Parse calls: the test on a name's first part, Clip; laws on what it keeps. Conditions: as stated. -/
namespace Go.Proofs.YtpfhhaonfbfheaaGreatDoor.en
open Go.ChangeShapes Go.WideShapes Go.ChangeAt Go.RowKit gl va ls ky

theorem infoGv : (Tryz.prog.info? 35).map (fun i => (i.zero, i.size, i.bytes)) = some (some (.agg #[.string .empty, .string .empty, .int .i64 0]), 3, 40) := by kernel_rfl
theorem infoStr : (Tryz.prog.info? 9).map (fun i => (i.zero, i.size, i.bytes)) = some (some (.string .empty), 1, 16) := by kernel_rfl
theorem then_bel {w w' w'' : World} {B : Nat} (h : Below B w w') (hB : B ≤ w'.heap.size) (h2 : Below w'.heap.size w' w'') : Below B w w'' := h.trans (h2.mono hB)
theorem drewN_bel (w : World) (n : Nat) : Below w.heap.size w (w.drewN n) := ⟨rfl, rfl, rfl, Nat.le_refl _, fun _ _ => rfl⟩
theorem st_cell {w : World} {b o n c : Nat} {R : List (List UInt8)} (h : Sts w (.slice (some ⟨b, o, none⟩) n c) R) {j : Nat} {x : List UInt8} (hx : R[j]? = some x) : w.cell? ⟨b, o + j, none⟩ = some (.string (B x)) := by
  have := rw.Rw.cell h hx (i := 0) (u := .string (B x)) rfl
  rw [Nat.mul_one] at this
  exact this
theorem gv_cells {w : World} {b o n c : Nat} {R : List Gv} (h : Gvs w (.slice (some ⟨b, o, none⟩) n c) R) {j : Nat} {x : Gv} (hx : R[j]? = some x) :
    w.cell? ⟨b, o + j * 3, none⟩ = some (.string (B x.name)) ∧ w.cell? ⟨b, o + j * 3 + 1, none⟩ = some (.string (B x.text)) ∧ w.cell? ⟨b, o + j * 3 + 2, none⟩ = some (.int .i64 x.pos) :=
  ⟨rw.Rw.cell h hx (i := 0) rfl, rw.Rw.cell h hx (i := 1) rfl, rw.Rw.cell h hx (i := 2) rfl⟩
set_option maxRecDepth 100000 in
theorem clipG_any (p : Option Addr) (n c : Nat) (hn : n ≤ c) (hc : n ≤ 4294967295) (w : World) : Calls Tryz.prog 58 #[.slice p n c] w fun e w' => e = .returned (.slice p n n) ∧ w = w' := by
  have h1 : (n : Int) ≤ (c : Int) := by omega
  have h2 : (0 : Int) ≤ (n : Int) := by omega
  go_enter Tryz.func58, Tryz.ntmps58
  go_wp2_with fail
  go_ret
  exact ⟨rfl, rfl⟩
/-- Does a name begin so? -/
theorem begins_any (x t : ByteArray) (g : Nat) (w : World) (hc : w.cell? ⟨g, 0, none⟩ = some (.string x)) : Calls Tryz.prog 56 #[.string t, .pointer (some ⟨g, 0, none⟩)] w fun e w' => e = .returned (.bool (Lib.hasPrefix x.data.toList t.data.toList)) ∧ ∃ q, w' = w.drewN q := by
  have hlt : g < w.heap.size := World.block_lt_of_cell? _ _ hc
  have HP := Lib.hid (Tryz.strings_HasPrefix x t)
  go_enter Tryz.func56, Tryz.ntmps56
  go_wp2_with fail
  refine (HP.out _).mono ?_
  rintro e w1 ⟨rfl, rfl⟩
  go_wp2_with fail
  go_ret
  exact ⟨rfl, 0, rfl⟩
theorem egBegins (args : Array Value) (w : World) : (callFunc 56 args).run Tryz.prog w = .ok (.enter 56 args) w := enters Tryz.func56 (by kernel_rfl) (by kernel_rfl) args w
theorem hasP (x t : List UInt8) : Lib.hasPrefix x t = t.isPrefixOf x := rfl
/-- Is one of the parts what a name begins with? -/
theorem like_any (names : List (List UInt8)) (nm : List UInt8) (pp : Option Addr) (cp g m : Nat) (hm : names.length = m) (hm31 : m ≤ 2147483647) (w : World) (hP : Sts w (.slice pp m cp) (names.map partOf)) (hg : w.cell? ⟨g, 0, none⟩ = some (.string (B nm))) :
    Calls Tryz.prog 55 #[.slice pp m cp, .func (.func 56) #[] #[.pointer (some ⟨g, 0, none⟩)]] w fun e w' => e = .returned (.bool (likeL names nm)) ∧ Below w.heap.size w w' := by
  have hgl : g < w.heap.size := World.block_lt_of_cell? _ _ hg
  by_cases h0 : m = 0
  · subst h0
    obtain rfl : names = [] := List.length_eq_zero_iff.1 hm
    refine (Tryz.slices_ContainsFunc_empty (α := List UInt8) pp cp _ w).mono ?_
    rintro e w' ⟨rfl, rfl⟩
    exact ⟨rfl, Below.refl _ _⟩
  · obtain ⟨b, o, rfl, hb⟩ := hP.ptr.2.2 (by omega)
    have hl : (names.map partOf).length = m := by simp [hm]
    refine (Tryz.slices_ContainsFunc (α := List UInt8) (fun l => .string (B l)) (fun t => t.isPrefixOf nm) 56 #[.pointer (some ⟨g, 0, none⟩)] egBegins b o m cp (names.map partOf) w (fun W x hW => ?_) (by omega) (by omega) (fun j hj => ?_)).mono ?_
    · have h := begins_any (B nm) (B x) g W ((hW.cell (p := ⟨g, 0, none⟩) hgl).trans hg)
      rw [B_list, B_list, hasP] at h
      exact h
    · have := st_cell hP (List.getElem?_eq_getElem hj)
      rw [this, getElem!_pos (names.map partOf) j hj]
    · rintro e w' ⟨rfl, q, rfl⟩
      refine ⟨?_, drewN_bel w q⟩
      rw [List.take_of_length_le (by omega), List.any_map]
      rfl

/-! ### What Parse keeps -/
theorem map_put {w1 w w' : World} {m k n0 : Nat} {D D' : DataW Unit} (h : MapAt w m k D) (h' : MapAt w' m n0 D') (hg : w.grownBy w' (some m)) {B0 : Nat} {v : Value} {xs : List Value} {sz : Nat} {T : TypeId} (hm : m < B0) (hr : w.ownsRow B0 T sz v k xs) (hu : Upd [m] w1 w) : Upd [m] w1 w' ∧ w'.ownsRow B0 T sz v k xs := by
  refine ⟨hu.grown hg (fun k hk => by cases hk; exact .inl (by simp)), (Upd.of_grown (S := [m]) hg (fun k hk => by cases hk; simp)).row hr fun g hg' hmem => ?_⟩
  obtain rfl : g = m := by simpa using hmem
  have := (hr.lt g hg').1
  omega
theorem row_put {w1 w w' : World} {m k : Nat} {D : DataW Unit} (h : MapAt w m k D) {v : Value} {xs : List Value} {sz n : Nat} {T : TypeId} (hr : w.ownsRow w1.heap.size T sz v n xs) (hm : m < w1.heap.size) (hg : w.grownBy w' v.ownBlock) (hu : Upd [m] w1 w) : Upd [m] w1 w' ∧ MapAt w' m k D := by
  refine ⟨hu.grown hg (fun k hk => .inr (hr.lt k hk).1), ?_⟩
  obtain ⟨es, clock, hb, r⟩ := h
  exact ⟨es, clock, (hg.block m (lt_of_block hb) (fun e => by have := (hr.lt m e.symm).1; omega)).trans hb, r⟩
theorem take_map_snoc {S : List Ky} {k : Nat} {x : Ky} (h : S[k]? = some x) : (S.map (·.name)).take (k + 1) = (S.map (·.name)).take k ++ [x.name] := by
  rw [List.take_add_one, List.getElem?_map, h]
  rfl
end Go.Proofs.YtpfhhaonfbfheaaGreatDoor.en
/- Package env: Parse of a set of definitions whose names are names. Conditions: the set lies in memory as its list, the pairs as theirs; at most 2147483647 pairs of at most 2147483647 bytes; the listed variables hold what the program's text lays. -/
namespace Go.Proofs.YtpfhhaonfbfheaaGreatDoor.en
open Go.ChangeShapes Go.WideShapes Go.ChangeAt Go.RowKit gl va ls ky
open Go.Maps

theorem go_name2 {K : Act → World → Prop} {a : Act} {W : World} (h : ∀ W', W' = W → K a W') : K a W := h W rfl
/-- What the names' first parts are, and what they are called, after k names; the blocks of w1 but the map's are as they were. -/
structure Half (w1 wr : World) (m k cp : Nat) (pp : Option Addr) (names : List (List UInt8)) : Prop where
  own : wr.ownsRow w1.heap.size 9 1 (.slice pp k cp) k (rw.flat stC ((names.take k).map partOf))
  mp : ∃ D : DataW Unit, MapAt wr m k D ∧ MapN D (names.take k)
  upd : Upd [m] w1 wr
theorem stC_info : (Tryz.prog.info? 9).map (fun i => (i.zero, i.size, i.bytes)) = some (some (.string .empty), 1, 16) := by kernel_rfl
theorem Half.start (w1 : World) (m : Nat) (names : List (List UInt8)) (h : MapAt w1 m 0 (.map [])) : Half w1 w1 m 0 0 none names := by
  refine ⟨⟨by simp [rw.flat], .inl ⟨rfl, rfl⟩⟩, ⟨.map [], h, ?_⟩, Upd.refl _ _⟩
  rw [List.take_zero]
  exact mapN_nil
set_option maxHeartbeats 4000000 in
set_option maxRecDepth 100000 in
theorem Parse_any (M b : Nat) (S : List Ky) (p : Option Addr) (c np : Nat) (pairs : List (List UInt8)) (hnp : pairs.length = np) (hp31 : np ≤ 2147483647) (hpl : ∀ x ∈ pairs, x.length ≤ 2147483647) (hn : ∀ x ∈ S, nameL x.name = true) (w : World) (hS : SetK M w b S) (hP : Sts w (.slice p np c) pairs) (hG : Glo w) :
    Calls Tryz.prog 27 #[.pointer (some ⟨b, 0, none⟩), .slice p np c] w fun e w' => (∃ v, e = .returned (.tuple #[v, .int .i64 (parseL (S.map (·.name)) 0 pairs []).2.1, .int .i64 ((parseL (S.map (·.name)) 0 pairs []).2.2 : Nat)]) ∧ NewGvs w.heap.size w' v (parseL (S.map (·.name)) 0 pairs []).1) ∧ Below w.heap.size w w' := by
  obtain ⟨i0, hi, hz0, hz1, hz2⟩ := info_parts infoStr
  obtain ⟨i1, si, sz0, sz1, sz2⟩ := info_parts infoGv
  have hlen := hS.len
  have hptrP := hP.ptr
  have HP := Lib.hid hP
  have HG := Lib.hid fun W (h : Below w.heap.size w W) => hG.below h (Nat.le_refl _)
  have HA := Lib.hid fun W (h : Below w.heap.size w W) => All_any M b S W (hS.later h)
  have Hn := Lib.hid hn
  have Hpl := Lib.hid hpl
  have Hnp := Lib.hid hnp
  have HptrP := Lib.hid hptrP.2.2
  obtain ⟨names, hnames⟩ : ∃ names, names = S.map (·.name) := ⟨_, rfl⟩
  have Hnames := Lib.hid hnames
  rw [← hnames]
  have Hnl : Hid (names.length = S.length) := Lib.hid (by rw [hnames, List.length_map])
  have Hnn : Hid (∀ x ∈ names, nameL x = true) := Lib.hid (by
    rw [hnames]
    intro x hx
    obtain ⟨y, hy, rfl⟩ := List.mem_map.1 hx
    exact hn y hy)
  obtain ⟨n, hnS⟩ : ∃ n, n = S.length := ⟨_, rfl⟩
  rw [← hnS] at HA Hnl hlen
  have HnS := Lib.hid hnS
  have hbS := hS.lt
  clear hS hP hG hn hpl hnp hptrP hnames hnS
  have hmm := @run_makeMap Tryz.prog
  go_enter Tryz.func27, Tryz.ntmps27
  go_wp2_with fail
  have H0 : Hid (MapAt (w.alloc (.map #[] 0)) w.heap.size 0 (.map [])) := Lib.hid (World.ownsMap_made w _ _ _)
  have Hb0 : Hid (Below w.heap.size w (w.alloc (.map #[] 0))) := Lib.hid ((Below.refl _ _).alloc (Nat.le_refl _) _)
  have hz0 : w.heap.size < (w.alloc (.map #[] 0)).heap.size := by simp
  refine (HA.out _ Hb0.out).mono ?_
  rintro e w1 ⟨⟨pk, rfl, hn1⟩, hb1⟩
  have HH0 : Hid (Half w1 w1 w.heap.size 0 0 none names) := Lib.hid (Half.start w1 _ names (map_later H0.out hb1))
  have HK1 : Hid (Kys w1 (.slice pk n n) S) := Lib.hid (hn1.rw kyC_len)
  have HKp := Lib.hid (HK1.out.ptr.2.2)
  have HKne : Hid (∀ g, (Value.slice pk n n).ownBlock = some g → g ∉ [w.heap.size]) := Lib.hid fun g hg hmem => by
    obtain rfl : g = w.heap.size := by simpa using hmem
    rcases hn1 with ⟨_, e⟩ | ⟨g', c', cs', e, _, h3, _⟩
    · rw [e] at hg; cases hg
    · rw [e] at hg
      have : g' = w.heap.size := by simpa [Value.ownBlock] using hg
      simp at h3
      omega
  have Hb1 : Hid (Below w.heap.size w w1) := Lib.hid (then_bel Hb0.out (Nat.le_of_lt hz0) hb1)
  have hsz1 : w.heap.size < w1.heap.size := Nat.lt_of_lt_of_le hz0 hb1.size
  have HBo : Hid (∀ W, Upd [w.heap.size] w1 W → Below w.heap.size w W) := Lib.hid fun W hW => Hb1.out.trans (hW.below (by simp) (by omega))
  clear hn1 hb1 H0 Hb0 hz0 HA
  go_wp2_with fail
  go_loopw [8, 30] (fun vp vi wr => ∃ (k cp : Nat) (pp : Option Addr), k ≤ n ∧ vi = .int .i64 k ∧ vp = .slice pp k cp ∧ Hid (Half w1 wr w.heap.size k cp pp names)) (fun _ vi _ => n - (intOf vi).toNat)
  case atStart => exact ⟨0, 0, none, by omega, rfl, rfl, HH0⟩
  case round =>
    clear HH0
    obtain ⟨wo, rfl⟩ : ∃ wo, wo = wr := ⟨_, rfl⟩
    obtain ⟨k, cp, pp, hk, rfl, rfl, HH⟩ := hrel
    have hzo : w1.heap.size ≤ wo.heap.size := HH.out.upd.size
    by_cases hlt : k < n
    · obtain ⟨x, hx⟩ : ∃ x, S[k]? = some x := ⟨_, List.getElem?_eq_getElem (by rw [← HnS.out]; exact hlt)⟩
      obtain ⟨gk, ok, rfl, hgk⟩ := HKp.out (by omega)
      obtain ⟨c0, c1, c2, c3, c4, c5⟩ := ky_cells (HK1.out.upd HH.out.upd HKne.out) hx
      have hgo : gk < wo.heap.size := by omega
      have hxn := Hn.out x (List.mem_of_getElem? hx)
      have HNm : Hid (∀ W, Below w.heap.size w W → Calls Tryz.prog 21 #[.string (B x.name)] W fun e w' => e = .returned (.tuple #[.string (B (greatL x.name)), .int .i64 0]) ∧ Below W.heap.size W w') := Lib.hid fun W hW => by
        have h := Name_any x.name (by have := name_len hxn; omega) W (HG.out W hW)
        rw [nmL_yes hxn, nmE_yes hxn] at h
        exact h
      have HCt : Hid (∀ W, Below w.heap.size w W → Calls Tryz.prog 54 #[.string (B (greatL x.name)), .string ⟨#[95]⟩] W fun e w' => (∃ y z, e = .returned (.tuple #[.string (B (bef 95 (greatL x.name))), .string y, .bool z])) ∧ Below W.heap.size W w') := Lib.hid fun W hW => by
        obtain ⟨mx, hmx⟩ := (HG.out W hW).maxLen
        refine (Tryz.strings_Cut (B (greatL x.name)) ⟨#[95]⟩ mx W (by rw [B_size, great_len]; have := name_len hxn; omega) hmx).mono ?_
        rintro e w' ⟨rfl, q, rfl⟩
        refine ⟨⟨_, _, by rw [B_list, show (⟨#[95]⟩ : ByteArray).data.toList = [95] from rfl, cut_first]⟩, drewN_bel W q⟩
      have HAd : Hid (∀ W : World, (Op.stringOp .add (B (bef 95 (greatL x.name))) ⟨#[95]⟩).run Tryz.prog W = .ok (.string (B (partOf x.name))) W) := Lib.hid fun W => by
        have e : B (bef 95 (greatL x.name)) ++ (⟨#[95]⟩ : ByteArray) = B (partOf x.name) := by
          apply ByteArray.ext
          rw [bef_great (name_bytes hxn)]
          simp [partOf]
        rw [← e]
        refine run_string_add_sum W _ _ ?_
        rw [B_size]
        have h1 : (bef 95 (greatL x.name)).length ≤ (greatL x.name).length := (List.takeWhile_prefix _).length_le
        rw [great_len] at h1
        have := name_len hxn
        have h2 : (⟨#[95]⟩ : ByteArray).size = 1 := rfl
        omega
      have HKey : Hid (keyOf Tryz.prog 9 (.string (B (greatL x.name))) = some (.string (greatL x.name))) := Lib.hid (keyS _ (by rw [great_len]; have := name_len hxn; unfold maxLen; omega))
      have HVal : Hid (mapS (.string (B x.name)) = some (.lit (.string x.name), [])) := Lib.hid (mapS_mk _ (by have := name_len hxn; unfold maxLen; omega))
      have Htk : Hid (names.take (k + 1) = names.take k ++ [x.name]) := Lib.hid (by
        rw [Hnames.out]
        exact take_map_snoc hx)
      have Hxn := Lib.hid hxn
      have Hpn : Hid (stC (partOf x.name) = [.string (B (partOf x.name))]) := Lib.hid rfl
      obtain ⟨D, hmD, hND⟩ := HH.out.mp
      have HmD := Lib.hid hmD
      have HND := Lib.hid hND
      have hki : (k : Int) < (n : Int) := by omega
      have hk0 : (0 : Int) ≤ (k : Int) := by omega
      clear hx hxn hmD hND HKp
      generalize B (bef 95 (greatL x.name)) = fx at *
      generalize B (greatL x.name) = gx at *
      generalize B (partOf x.name) = px at *
      generalize B x.name = nx at *
      generalize B x.dflt = dx at *
      generalize B x.letter = lx at *
      generalize x.kind = kx at *
      generalize x.least = ex at *
      generalize x.most = ox at *
      go_upto_region 8 with fail
      refine go_name2 (fun wA hA => ?_)
      have kA : wA.heap[wo.heap.size]? = some (.cells #[.string nx, .int .i64 kx, .string dx, .int .i64 ex, .int .i64 ox, .string lx] 62 (0, 0)) := by rw [hA]; exact heap_alloc_new wo _
      have hbA : Below wo.heap.size wo wA := by rw [hA]; exact (Below.refl _ _).alloc (Nat.le_refl _) _
      have HkA := Lib.hid kA
      have HbA := Lib.hid hbA
      have HUA := Lib.hid (HH.out.upd.then_below hbA)
      have a0 : wA.cell? ⟨wo.heap.size, 0, none⟩ = some (.string nx) := cell_in kA
      have al : wo.heap.size < wA.heap.size := lt_of_block kA
      clear hA kA hbA c0 c1 c2 c3 c4 c5
      go_wp2_with fail
      refine (HNm.out wA (HBo.out _ HUA.out)).mono ?_
      rintro e w2 ⟨rfl, hb2⟩
      have a2 : w2.cell? ⟨wo.heap.size, 0, none⟩ = some (.string nx) := (hb2.cell (p := ⟨wo.heap.size, 0, none⟩) al).trans a0
      have al2 : wo.heap.size < w2.heap.size := Nat.lt_of_lt_of_le al hb2.size
      have HU2 := Lib.hid (HUA.out.then_below hb2)
      have HM2 : Hid (MapAt w2 w.heap.size k D) := Lib.hid (map_later (map_later HmD.out HbA.out) hb2)
      have HO2 := Lib.hid (ls.own_kept (ls.own_kept HH.out.own HbA.out) hb2)
      clear hb2 a0 al
      focus
        go_wp2_with (at_mapUpdate; go_must (refine wpList_mapUpdate_own _ rfl _ _ _ 76 rfl 9 9 lawS Tryz.underlying76 mapS w.heap.size k D rfl HM2.out (by unfold maxLen; omega) _ _ _ rfl rfl HKey.out _ [] HVal.out ?_))
      intro w3 hm3 hg3
      have HM3 : Hid (MapAt w3 w.heap.size (k + 1) (D.put (.string (greatL x.name)) (.lit (.string x.name)))) := Lib.hid hm3
      obtain ⟨hu3, ho3⟩ := map_put HM2.out hm3 hg3 hsz1 HO2.out HU2.out
      have HU3 := Lib.hid hu3
      have HO3 := Lib.hid ho3
      clear hm3 hg3 hu3 ho3 a2 al2
      go_wp2_with fail
      refine (HCt.out w3 (HBo.out _ HU3.out)).mono ?_
      rintro e w4 ⟨⟨y, z, rfl⟩, hb4⟩
      have HU4 := Lib.hid (HU3.out.then_below hb4)
      have HM4 := Lib.hid (map_later HM3.out hb4)
      have HO4 := Lib.hid (ls.own_kept HO3.out hb4)
      have hz4 : w1.heap.size ≤ w4.heap.size := HU4.out.size
      have hadd := HAd.out
      clear hb4
      focus
        go_wp2_with (at_builtin; go_must (refine wpList_append_lit rfl _ _ 38 rfl 9 i0 _ 16 Tryz.underlying38 hi hz0 hz1 hz2 rfl _ 1 (by omega) (by rfl) (by rfl) w1.heap.size _ k _ (by rfl) HO4.out (by simp [Value.oneCell']) (by omega) (by omega) (by omega) ?_))
      intro g' cap' w5 hown5 hgrow5 hat5 hz5 hlt5
      obtain ⟨hu5, hm5⟩ := row_put HM4.out HO4.out hsz1 hgrow5 HU4.out
      have HH5 : Hid (Half w1 w5 w.heap.size (k + 1) cap' (some ⟨g', 0, none⟩) names) := Lib.hid ⟨by
        rw [Htk.out, List.map_append, rw.flat_append, List.map_take]
        show w5.ownsRow w1.heap.size 9 1 _ (k + 1) (_ ++ (stC (partOf x.name) ++ []))
        rw [Hpn.out]
        exact hown5, ⟨_, hm5, by rw [Htk.out]; exact mapN_put HND.out (fun y hy => Hnn.out y (List.mem_of_mem_take hy)) Hxn.out⟩, hu5⟩
      clear hown5 hgrow5 hat5 hu5 hm5 hadd
      go_wp2_with fail
      go_roundw
      case rel => exact ⟨k + 1, cap', some ⟨g', 0, none⟩, by omega, by go_num, rfl, HH5⟩
      case measure => simp [intOf]; omega
    · obtain rfl : k = n := by omega
      have hHH := HH.out
      have htk : names.take k = names := List.take_of_length_le (by rw [Hnl.out]; exact Nat.le_refl _)
      obtain ⟨D, hmD, hND⟩ := hHH.mp
      have hown := hHH.own
      rw [htk] at hND hown
      have Hw2 : Hid (Below w.heap.size w wo) := Lib.hid (HBo.out _ hHH.upd)
      have hwz : w.heap.size ≤ wo.heap.size := Hw2.out.size
      have HMp : Hid (∀ W, Below wo.heap.size wo W → MapAt W w.heap.size k D) := Lib.hid fun W hW => map_later hmD hW
      have HND := Lib.hid hND
      have hst := rw.own_rw stC_len (by decide) hown
      have HPr : Hid (∀ W, Below wo.heap.size wo W → Sts W (.slice p np c) pairs) := Lib.hid fun W hW => HP.out.later (then_bel Hw2.out hwz hW)
      have HGl : Hid (∀ W, Below wo.heap.size wo W → Glo W) := Lib.hid fun W hW => HG.out W (then_bel Hw2.out hwz hW)
      have HLk : Hid (∀ W g nm, Below wo.heap.size wo W → W.cell? ⟨g, 0, none⟩ = some (.string (B nm)) → Calls Tryz.prog 55 #[.slice pp k cp, .func (.func 56) #[] #[.pointer (some ⟨g, 0, none⟩)]] W fun e w' => e = .returned (.bool (likeL names nm)) ∧ Below W.heap.size W w') := Lib.hid fun W g nm hW hg => like_any names nm pp cp g k Hnl.out (by omega) W (hst.later hW) hg
      have HO0 : Hid (wo.ownsRow wo.heap.size 35 3 (.slice none 0 0) 0 (rw.flat gvC [])) := Lib.hid ⟨rfl, .inl ⟨rfl, rfl⟩⟩
      have HZ : Hid (mapS (.string ⟨#[]⟩) = some (.lit (.string []), [])) := Lib.hid (mapS_mk [] (by decide))
      clear hHH htk hmD hND hown hst HH HKp HKne HK1 Hb1 HBo HG HP
      go_wp2_with fail
      go_loopw [16, 58] (fun vo vi wr => ∃ (j co no : Nat) (po : Option Addr) (out : List Gv), j ≤ np ∧ vi = .int .i64 j ∧ no ≤ j ∧ vo = .slice po no co ∧ Hid (wr.ownsRow wo.heap.size 35 3 (.slice po no co) no (rw.flat gvC out)) ∧ Hid (parseL names 0 pairs [] = parseL names j (pairs.drop j) out) ∧ Hid (Below wo.heap.size wo wr)) (fun _ vi _ => np - (intOf vi).toNat)
      case atStart => exact ⟨0, 0, 0, none, [], by omega, rfl, by omega, rfl, HO0, Lib.hid rfl, Lib.hid (Below.refl _ _)⟩
      case round =>
        clear HO0
        obtain ⟨wq, rfl⟩ : ∃ wq, wq = wr := ⟨_, rfl⟩
        obtain ⟨j, co, no, po, out, hj, rfl, hno, rfl, HO, HR, Hb⟩ := hrel
        have hzq : wo.heap.size ≤ wq.heap.size := Hb.out.size
        by_cases hlt2 : j < np
        · obtain ⟨x, hx⟩ : ∃ x, pairs[j]? = some x := ⟨_, List.getElem?_eq_getElem (by rw [Hnp.out]; exact hlt2)⟩
          obtain ⟨bp, op, rfl, hbp⟩ := HptrP.out (by omega)
          have c0 := st_cell (HPr.out _ Hb.out) hx
          have hgo : bp < wq.heap.size := by omega
          have hx31 := Hpl.out x (List.mem_of_getElem? hx)
          have hcut : ∃ nm tx is, Lib.cut x [61] = (nm, tx, is) ∧ ((is = true ∧ (61 : UInt8) ∈ x ∧ nm = bef 61 x ∧ tx = aft 61 x) ∨ (is = false ∧ (61 : UInt8) ∉ x)) := by
            rw [cut_one]
            by_cases h : (61 : UInt8) ∈ x
            · rw [if_pos h]; exact ⟨_, _, _, rfl, .inl ⟨rfl, h, rfl, rfl⟩⟩
            · rw [if_neg h]; exact ⟨_, _, _, rfl, .inr ⟨rfl, h⟩⟩
          obtain ⟨nm, tx, is, hc1, hc2⟩ := hcut
          have HCt : Hid (∀ W, Below wo.heap.size wo W → Calls Tryz.prog 54 #[.string (B x), .string ⟨#[61]⟩] W fun e w' => e = .returned (.tuple #[.string (B nm), .string (B tx), .bool is]) ∧ Below W.heap.size W w') := Lib.hid fun W hW => by
            obtain ⟨mx, hmx⟩ := (HGl.out W hW).maxLen
            refine (Tryz.strings_Cut (B x) ⟨#[61]⟩ mx W (by rw [B_size]; omega) hmx).mono ?_
            rintro e w' ⟨rfl, q, rfl⟩
            refine ⟨by rw [B_list, show (⟨#[61]⟩ : ByteArray).data.toList = [61] from rfl, hc1], drewN_bel W q⟩
          have HLn : Hid (nm.length ≤ 2147483647) := Lib.hid (by
            have h1 : (Lib.cut x [61]).1 = bef 61 x := cut_first 61 x
            rw [hc1] at h1
            have h2 : (bef 61 x).length ≤ x.length := (List.takeWhile_prefix _).length_le
            rw [show nm = bef 61 x from h1]
            omega)
          have HC2 := Lib.hid hc2
          have Hx := Lib.hid hx
          have hji : (j : Int) < (np : Int) := by omega
          have hj0 : (0 : Int) ≤ (j : Int) := by omega
          clear hc1 hc2 hx hx31
          obtain ⟨xb, hxb⟩ : ∃ xb, xb = B x := ⟨_, rfl⟩
          rw [← hxb] at c0 HCt
          clear hxb
          obtain ⟨tb, htb⟩ : ∃ tb, tb = B tx := ⟨_, rfl⟩
          rw [← htb] at HCt
          have Htb := Lib.hid htb
          clear htb
          obtain ⟨nb, hnb⟩ : ∃ nb, nb = B nm := ⟨_, rfl⟩
          rw [← hnb] at HCt
          have Hnb := Lib.hid hnb
          clear hnb
          go_wp2_with fail
          refine (HCt.out _ Hb.out).mono ?_
          rintro e w3 ⟨rfl, hb3⟩
          have Hb3 := Lib.hid (then_bel Hb.out hzq hb3)
          have HO3 := Lib.hid (ls.own_kept HO.out hb3)
          clear hb3 c0 HCt
          go_upto_region 18 with fail
          refine go_name2 (fun wA hA => ?_)
          have kA : wA.heap[w3.heap.size]? = some (.cells #[.string nb] 9 (0, 0)) := by rw [hA]; exact heap_alloc_new w3 _
          have hbA : Below w3.heap.size w3 wA := by rw [hA]; exact (Below.refl _ _).alloc (Nat.le_refl _) _
          have a0 : wA.cell? ⟨w3.heap.size, 0, none⟩ = some (.string nb) := cell_in kA
          have al : w3.heap.size < wA.heap.size := lt_of_block kA
          have HbA := Lib.hid (then_bel Hb3.out Hb3.out.size hbA)
          have HOA := Lib.hid (ls.own_kept HO3.out hbA)
          have hzA : wo.heap.size ≤ wA.heap.size := HbA.out.size
          have HwA := Lib.hid (then_bel Hw2.out hwz HbA.out)
          clear hA kA hbA HO HO3 Hb Hb3
          cases is with
          | false =>
            have Hr : Hid (parseL names 0 pairs [] = ([], 80, j)) := Lib.hid (by
              rcases HC2.out with ⟨h, _⟩ | ⟨_, h⟩
              · cases h
              · rw [HR.out, parse_err Hx.out (step_form (.inl h))])
            clear HC2
            go_wp2_with fail
            go_ret3
            exact ⟨⟨.slice none 0 0, by first | (rw [Hr.out]; rfl) | rw [Hr.out], .inl ⟨by rw [Hr.out], rfl⟩⟩, HwA.out⟩
          | true =>
            have Hm : Hid ((61 : UInt8) ∈ x ∧ nm = bef 61 x ∧ tx = aft 61 x) := Lib.hid (by
              rcases HC2.out with ⟨_, h⟩ | ⟨h, _⟩
              · exact h
              · cases h)
            clear HC2
            by_cases hne : nm = []
            · have Hr : Hid (parseL names 0 pairs [] = ([], 80, j)) := Lib.hid (by
                rw [HR.out, parse_err Hx.out (step_form (.inr (by rw [← Hm.out.2.1]; exact hne)))])
              obtain rfl : nb = ⟨#[]⟩ := by rw [Hnb.out, hne]
              clear hne
              go_wp2_with fail
              go_ret3
              exact ⟨⟨.slice none 0 0, by first | (rw [Hr.out]; rfl) | rw [Hr.out], .inl ⟨by rw [Hr.out], rfl⟩⟩, HwA.out⟩
            · have hbl : nb.toList = nm := by rw [ByteArray.toList_eq, Hnb.out, B_list]
              have q1 : (nb.toList == []) = false := by
                rw [hbl, beq_eq_false_iff_ne]
                exact hne
              have q2 : nb.toList.isEmpty = false := by
                rw [hbl]
                cases nm with
                | nil => exact absurd rfl hne
                | cons a r => rfl
              clear hbl
              have Hne := Lib.hid hne
              have HKey : Hid (keyOf Tryz.prog 9 (.string nb) = some (.string nm)) := Lib.hid (by rw [Hnb.out]; exact keyS _ (by have := HLn.out; unfold maxLen; omega))
              have HMA := Lib.hid (HMp.out _ HbA.out)
              clear hne
              focus
                go_wp2_with (at_lookup; go_must (refine wpList_lookup_own_ok _ rfl _ _ 76 rfl 9 9 lawS Tryz.underlying76 mapS (zeroS _) (.lit (.string [])) [] HZ.out w.heap.size k D rfl HMA.out _ _ rfl HKey.out ?_))
              intro v ps hv
              rw [(HND.out.2 nm).2] at hv
              obtain rfl := mapS_inv hv
              rw [(HND.out.2 nm).1]
              clear hv q1 q2
              cases hpk : pickL names nm with
              | some nn =>
                have Hpk : Hid (stepL names x = .ok (some (nn, tx))) := Lib.hid (by
                  rw [Hm.out.2.2]
                  exact step_pick Hm.out.1 (by rw [← Hm.out.2.1]; exact Hne.out) (by rw [← Hm.out.2.1]; exact hpk))
                have Hr2 : Hid (parseL names 0 pairs [] = parseL names (j + 1) (pairs.drop (j + 1)) (out ++ [⟨nn, tx, j⟩])) := Lib.hid (by rw [HR.out, parse_take Hx.out Hpk.out])
                simp only [Option.isSome_some, Option.getD_some]
                obtain ⟨nnb, hnnb⟩ : ∃ nnb, nnb = B nn := ⟨_, rfl⟩
                rw [← hnnb]
                have Hnnb := Lib.hid hnnb
                clear hpk hnnb
                focus
                  go_wp2_with (at_builtin; go_must (refine wpList_append_k rfl _ _ 31 rfl 35 i1 _ 3 40 Tryz.underlying31 si sz0 sz1 sz2 rfl (by omega) _ (by rfl) (by rfl) wo.heap.size _ no _ (by rfl) HOA.out (by simp [Value.oneCell']) (by omega) (by omega) (by omega) ?_))
                intro g' cap' w5 hown5 hgrow5 hat5 hz5 hlt5
                have HO5 : Hid (w5.ownsRow wo.heap.size 35 3 (.slice (some ⟨g', 0, none⟩) (no + 1) cap') (no + 1) (rw.flat gvC (out ++ [⟨nn, tx, j⟩]))) := Lib.hid (by
                  rw [rw.flat_snoc]
                  show w5.ownsRow wo.heap.size 35 3 _ (no + 1) (_ ++ [.string (B nn), .string (B tx), .int .i64 j])
                  rw [← Hnnb.out, ← Htb.out]
                  exact hown5)
                have Hb5 := Lib.hid (below_grown_own HbA.out HOA.out hgrow5 hzA)
                clear hown5 hgrow5 hat5 hz5 hlt5
                go_wp2_with fail
                go_roundw
                case rel => exact ⟨j + 1, cap', no + 1, some ⟨g', 0, none⟩, _, by omega, by go_num, by omega, rfl, HO5, Hr2, Hb5⟩
                case measure => simp [intOf]; omega
              | none =>
                simp only [Option.isSome_none, Option.getD_none]
                have hLk := HLk.out wA w3.heap.size nm HbA.out (by rw [← Hnb.out]; exact a0)
                have Hst : Hid (likeL names nm = true → stepL names x = .error 81) := Lib.hid fun hl => step_like Hm.out.1 (by rw [← Hm.out.2.1]; exact Hne.out) (by rw [← Hm.out.2.1]; exact hpk) (by rw [← Hm.out.2.1]; exact hl)
                have Hsk : Hid (likeL names nm = false → stepL names x = .ok none) := Lib.hid fun hl => step_skip Hm.out.1 (by rw [← Hm.out.2.1]; exact Hne.out) (by rw [← Hm.out.2.1]; exact hpk) (by rw [← Hm.out.2.1]; exact hl)
                have HLkA := Lib.hid hLk
                clear hpk hLk
                generalize likeL names nm = lk at *
                go_wp2_with fail
                refine HLkA.out.mono ?_
                rintro e w5 ⟨rfl, hb5⟩
                have Hb5 := Lib.hid (then_bel HbA.out hzA hb5)
                have HO5 := Lib.hid (ls.own_kept HOA.out hb5)
                have Hw5 := Lib.hid (then_bel HwA.out (Nat.le_trans hwz hzA) hb5)
                clear hb5
                cases lk with
                | true =>
                  have Hr : Hid (parseL names 0 pairs [] = ([], 81, j)) := Lib.hid (by rw [HR.out, parse_err Hx.out (Hst.out rfl)])
                  go_wp2_with fail
                  go_ret3
                  exact ⟨⟨.slice none 0 0, by first | (rw [Hr.out]; rfl) | rw [Hr.out], .inl ⟨by rw [Hr.out], rfl⟩⟩, Hw5.out⟩
                | false =>
                  have Hr2 : Hid (parseL names 0 pairs [] = parseL names (j + 1) (pairs.drop (j + 1)) out) := Lib.hid (by rw [HR.out, parse_skip Hx.out (Hsk.out rfl)])
                  go_wp2_with fail
                  go_roundw
                  case rel => exact ⟨j + 1, co, no, po, out, by omega, by go_num, by omega, rfl, HO5, Hr2, Hb5⟩
                  case measure => simp [intOf]; omega
        · obtain rfl : j = np := by omega
          have Hr : Hid (parseL names 0 pairs [] = (out, 0, 0)) := Lib.hid (by
            rw [HR.out, ← Hnp.out]
            exact parse_end names pairs out _)
          have HN := Lib.hid (rw.own_new gvC_len (by decide) HO.out)
          have hcl : no ≤ co := (HN.out.rw gvC_len).ptr.2.1
          have Hwq := Lib.hid (then_bel Hw2.out hwz Hb.out)
          go_wp2_with fail
          refine (clipG_any po no co hcl (by omega) wq).mono ?_
          rintro e w5 ⟨rfl, rfl⟩
          go_wp2_with fail
          go_ret3
          refine ⟨⟨_, by rw [Hr.out]; rfl, ?_⟩, Hwq.out⟩
          rw [Hr.out]
          exact HN.out.clip.mono hwz
end Go.Proofs.YtpfhhaonfbfheaaGreatDoor.en
/- Two settings that were given held against each other. No conditions. -/
namespace Go.Proofs.YtpfhhaonfbfheaaGreatDoor.en
open Go.RowKit

theorem gvFields : (Tryz.prog.fieldsOf 35).toList.map (fun f => (decide (f.name ≠ "_"), f.type, f.offset)) = [(true, 9, 0), (true, 9, 1), (true, 3, 2)] := by kernel_rfl
theorem three_fields {l : List Field} {t0 t1 t2 : TypeId} (h : l.map (fun f => (decide (f.name ≠ "_"), f.type, f.offset)) = [(true, t0, 0), (true, t1, 1), (true, t2, 2)]) :
    ∃ f0 f1 f2 : Field, l = [f0, f1, f2] ∧ f0.name ≠ "_" ∧ f0.type = t0 ∧ f0.offset = 0 ∧ f1.name ≠ "_" ∧ f1.type = t1 ∧ f1.offset = 1 ∧ f2.name ≠ "_" ∧ f2.type = t2 ∧ f2.offset = 2 := by
  obtain ⟨f0, r0, rfl, h0, h⟩ := List.map_eq_cons_iff.1 h
  obtain ⟨f1, r1, rfl, h1, h⟩ := List.map_eq_cons_iff.1 h
  obtain ⟨f2, r2, rfl, h2, h⟩ := List.map_eq_cons_iff.1 h
  obtain rfl := List.map_eq_nil_iff.1 h
  simp only [Prod.mk.injEq, decide_eq_true_eq] at h0 h1 h2
  exact ⟨f0, f1, f2, rfl, h0.1, h0.2.1, h0.2.2, h1.1, h1.2.1, h1.2.2, h2.1, h2.2.1, h2.2.2⟩
set_option maxRecDepth 100000 in
theorem neq_gv (a b a2 b2 : ByteArray) (n n2 : Int) (w : World) :
    (binOp .neq 35 (.agg #[.string a, .string b, .int .i64 n]) (.agg #[.string a2, .string b2, .int .i64 n2])).run Tryz.prog w = .ok (.bool (!((a.toList == a2.toList) && ((b.toList == b2.toList) && (n == n2))))) w := by
  have hs : Tryz.prog.underlying 9 = some .string := Tryz.underlying9
  have hi : Tryz.prog.underlying 3 = some (.int .i64) := Tryz.underlying3
  have hc : Tryz.prog.cellsOf 9 = 1 := by kernel_rfl
  have hc2 : Tryz.prog.cellsOf 3 = 1 := by kernel_rfl
  obtain ⟨f0, f1, f2, hf, n0, t0, o0, n1, t1, o1, n2', t2, o2⟩ := three_fields gvFields
  rw [run_neq_struct, run_equalIn_struct w 9999 35 _ _ Tryz.underlying35 (by kernel_rfl), hf]
  simp only [Op.eqFields, n0, n1, n2', t0, t1, t2, o0, o1, o2, ne_eq, not_false_eq_true, if_true]
  cases h1 : (a.toList == a2.toList) <;> cases h2 : (b.toList == b2.toList) <;> cases h3 : (n == n2) <;> simp [go_sem, part, hs, hi, h1, h2, h3]
  all_goals trace_state
set_option maxRecDepth 100000 in
theorem eql_gv (a b a2 b2 : ByteArray) (n n2 : Int) (w : World) :
    (binOp .eql 35 (.agg #[.string a, .string b, .int .i64 n]) (.agg #[.string a2, .string b2, .int .i64 n2])).run Tryz.prog w = .ok (.bool ((a.toList == a2.toList) && ((b.toList == b2.toList) && (n == n2)))) w := by
  have hs : Tryz.prog.underlying 9 = some .string := Tryz.underlying9
  have hi : Tryz.prog.underlying 3 = some (.int .i64) := Tryz.underlying3
  have hc : Tryz.prog.cellsOf 9 = 1 := by kernel_rfl
  have hc2 : Tryz.prog.cellsOf 3 = 1 := by kernel_rfl
  obtain ⟨f0, f1, f2, hf, n0, t0, o0, n1, t1, o1, n2', t2, o2⟩ := three_fields gvFields
  rw [run_eql_struct, run_equalIn_struct w 9999 35 _ _ Tryz.underlying35 (by kernel_rfl), hf]
  simp only [Op.eqFields, n0, n1, n2', t0, t1, t2, o0, o1, o2, ne_eq, not_false_eq_true, if_true]
  cases h1 : (a.toList == a2.toList) <;> cases h2 : (b.toList == b2.toList) <;> cases h3 : (n == n2) <;> simp [go_sem, part, hs, hi, h1, h2, h3]
  all_goals trace_state
end Go.Proofs.YtpfhhaonfbfheaaGreatDoor.en
/- Chapter 5's sixteen definitions in plain words: taken in one by one they are what stands. No program in sight; no conditions. -/
namespace Go.Proofs.YtpfhhaonfbfheaaGreatDoor.ky
open gl va ls

noncomputable def dfltL (x : Ky) : Bool := decide ((parse wordL x.kind x.dflt).2 = 0) && within wordL (parse wordL x.kind x.dflt).1 x.least x.most
noncomputable def addE (S : List Ky) (x : Ky) : Int :=
  if formL x = false then 50 else if dfltL x = false then 53 else if (findK S x.name).isSome then 51 else if (lettK S x.letter).isSome then 52 else if S.length = 64 then 54 else 0
noncomputable def addK (S : List Ky) (x : Ky) : List Ky := if addE S x = 0 then insK S x else S
def logK : List Ky := [⟨[108, 111, 103, 46, 102, 105, 108, 101], 5, [36, 123, 115, 116, 111, 114, 101, 46, 100, 105, 114, 125, 47, 108, 111, 103], 0, 0, []⟩, ⟨[108, 111, 103, 46, 107, 101, 101, 112], 4, [55, 100], 1, 2592000, []⟩, ⟨[108, 111, 103, 46, 108, 101, 118, 101, 108], 2, [50], 0, 5, [118]⟩]
def netK : List Ky := [⟨[110, 101, 116, 46, 104, 111, 115, 116], 5, [108, 111, 99, 97, 108, 104, 111, 115, 116], 0, 0, []⟩, ⟨[110, 101, 116, 46, 112, 101, 101, 114, 115], 6, [], 0, 16, []⟩, ⟨[110, 101, 116, 46, 112, 111, 114, 116], 2, [56, 48, 56, 48], 1, 65535, [112]⟩, ⟨[110, 101, 116, 46, 116, 105, 109, 101, 111, 117, 116], 4, [51, 48, 115], 1, 3600, []⟩, ⟨[110, 101, 116, 46, 117, 114, 108], 5, [104, 116, 116, 112, 58, 47, 47, 36, 123, 110, 101, 116, 46, 104, 111, 115, 116, 125, 58, 36, 123, 110, 101, 116, 46, 112, 111, 114, 116, 125], 0, 0, []⟩]
def storeK : List Ky := [⟨[115, 116, 111, 114, 101, 46, 98, 108, 111, 99, 107, 115], 2, [54, 52], 8, 4096, [98]⟩, ⟨[115, 116, 111, 114, 101, 46, 99, 97, 99, 104, 101], 3, [52, 109], 0, 1073741824, [99]⟩, ⟨[115, 116, 111, 114, 101, 46, 100, 105, 114], 5, [47, 118, 97, 114, 47, 116, 105, 110, 100, 101, 114], 0, 0, [100]⟩, ⟨[115, 116, 111, 114, 101, 46, 112, 97, 103, 101], 3, [52, 107], 512, 65536, []⟩]
def bootK : List Ky := [⟨[98, 111, 111, 116, 46, 100, 114, 121], 1, [102, 97, 108, 115, 101], 0, 0, [110]⟩, ⟨[98, 111, 111, 116, 46, 108, 105, 109, 105, 116], 2, [48], 0, 1024, []⟩, ⟨[98, 111, 111, 116, 46, 115, 101, 114, 118, 105, 99, 101, 115], 6, [108, 111, 103, 44, 110, 101, 116], 0, 16, [115]⟩, ⟨[98, 111, 111, 116, 46, 119, 111, 114, 107, 101, 114, 115], 2, [48], 0, 64, [119]⟩]
def stdK : List Ky := bootK ++ (logK ++ (netK ++ storeK))
noncomputable def addAll : List Ky → List Ky → List Ky
  | S, [] => S
  | S, x :: r => addAll (addK S x) r
theorem addAll_append : ∀ (l m S : List Ky), addAll S (l ++ m) = addAll (addAll S l) m
  | [], _, _ => rfl
  | x :: r, m, S => by simp only [List.cons_append, addAll, addAll_append r m]
theorem std_all : addAll [] (logK ++ (netK ++ (storeK ++ bootK))) = stdK := by kernel_rfl
theorem std_ok : ∀ x ∈ stdK, KyOk x := by unfold KyOk; decide +kernel
theorem std_asc : AscK stdK := by unfold AscK; decide +kernel
end Go.Proofs.YtpfhhaonfbfheaaGreatDoor.ky
/- value.cut returns the plain function. Conditions: the listed variables hold what the program's text lays; the text is no longer than 2147483647 bytes. -/
namespace Go.Proofs.YtpfhhaonfbfheaaGreatDoor.va
open Go.ChangeShapes Go.WideShapes Go.ChangeAt Go.RowKit gl

theorem digs_48 {s : ByteArray} (h : s.data.toList = [48]) : s.data.toList.take (digs s.data.toList) = s.data.toList := by rw [h]; rfl
theorem take_ba (s : ByteArray) (k : Nat) : (s.extract 0 k).data.toList = s.data.toList.take k := by rw [Lib.extract_data]; simp
theorem drop_ba (s : ByteArray) (k : Nat) : (s.extract k s.size).data.toList = s.data.toList.drop k := by rw [Lib.extract_data]; rw [List.take_of_length_le (by simp)]
theorem cut_pred (w : World) : PredAt Tryz.prog 145 #[] encR (fun r => decide (r < 48 ∨ 57 < r)) w := fun W r _ => (cutp_any r W).mono fun _ _ ⟨he, hw⟩ => ⟨he, 0, hw⟩
theorem idx_cut (s : ByteArray) (w : World) : Calls Tryz.prog 144 #[.string s, .func (.func 145) #[] #[]] w fun e w' => e = .returned (.int .i64 (if digs s.data.toList = s.size then -1 else (digs s.data.toList : Int))) ∧ Below w.heap.size w w' := by
  refine (Tryz.strings_IndexFunc 145 #[] (enters_of Tryz.func145 (by kernel_rfl) rfl) _ s w (cut_pred w)).mono ?_
  rintro e w' ⟨rfl, hb⟩
  refine ⟨?_, hb⟩
  unfold Lib.idxFunc
  rw [idx_digs s s.size 0 (by omega) (by omega) (fun j b h => by omega)]

theorem sb_drew {w1 wp : World} (h : Hid (Below w1.heap.size w1 wp)) : Hid (Below w1.heap.size w1 wp.drew) := Lib.hid h.out.drew
theorem sb_call {w1 wp w' : World} (h : Hid (Below w1.heap.size w1 wp)) (hb : Below wp.heap.size wp w') : Hid (Below w1.heap.size w1 w') := Lib.hid (h.out.trans (hb.mono h.out.size))
theorem sb_vlo {w1 wp : World} (hV : Vlo w1) (h : Hid (Below w1.heap.size w1 wp)) : Vlo wp := hV.below h.out (Nat.le_refl _)

set_option maxHeartbeats 400000 in
set_option maxRecDepth 100000 in
theorem cut_any (k : Int) (s : ByteArray) (_hs : s.size ≤ 2147483647) (w : World) (hV : Vlo w) :
    Calls Tryz.prog 114 #[.int .i64 k, .string s] w fun e w' => (∃ t : ByteArray, t.data.toList = s.data.toList.take (digs s.data.toList) ∧ e = .returned (.tuple #[.string t, .int .i64 (tail k s.data.toList)])) ∧ Below w.heap.size w w' := by
  have HV := Lib.hid hV
  clear hV
  have hdl : digs s.data.toList ≤ s.size := by have := digs_le s.data.toList; simpa using this
  have H48 : Hid (k = 4 → s.data.toList = [48] → tail k s.data.toList = 1) := Lib.hid (fun h h2 => by unfold tail; rw [if_pos ⟨h, h2⟩])
  have Hel : Hid (¬ (k = 4 ∧ s.data.toList = [48]) → tail k s.data.toList = unit k (s.data.toList.drop (digs s.data.toList))) := Lib.hid (fun h => by unfold tail; rw [if_neg h])
  have hidx := idx_cut s w
  have Ht := Lib.hid (take_ba s (digs s.data.toList))
  have Hd := Lib.hid (drop_ba s (digs s.data.toList))
  have H4 := Lib.hid (@digs_48 s)
  generalize digs s.data.toList = d at *
  generalize tail k s.data.toList = m at *
  have hU := fun (W : World) (hb : Vlo W) => Unit_any k (s.extract d s.size) W hb.units
  have HU := Lib.hid hU
  clear hU
  by_cases hk : k = 4 ∧ s.data.toList = [48]
  · obtain ⟨rfl, h48⟩ := hk
    have hlit : (s.toList == [48]) = true := seq_lit h48
    have Hr : Hid (s.data.toList = s.data.toList.take d) := Lib.hid (H4.out h48).symm
    have Hm : Hid (m = 1) := Lib.hid (H48.out rfl h48)
    clear h48
    by_cases hds : d = s.size
    · rw [if_pos hds] at hidx
      go_enter Tryz.func114, Tryz.ntmps114
      go_wp2_with fail
      refine hidx.mono ?_
      rintro e w1 ⟨rfl, hb1⟩
      go_wp2_with fail
      go_ret2
      exact ⟨⟨s, Hr.out, by rw [Hm.out]; rfl⟩, hb1⟩
    · rw [if_neg hds] at hidx
      go_enter Tryz.func114, Tryz.ntmps114
      go_wp2_with fail
      refine hidx.mono ?_
      rintro e w1 ⟨rfl, hb1⟩
      go_wp2_with fail
      go_ret2
      exact ⟨⟨s, Hr.out, by rw [Hm.out]; rfl⟩, hb1⟩
  · have Hm : Hid (m = unit k (s.data.toList.drop d)) := Lib.hid (Hel.out hk)
    have htest : (k == 4) = false ∨ ((k == 4) = true ∧ (s.toList == [48]) = false) := by
      by_cases h4 : k = 4
      · exact .inr ⟨by simp [h4], seq_nlit fun e => hk ⟨h4, e⟩⟩
      · exact .inl (by simp [h4])
    clear hk
    have go : ∀ (i : Int) (hi : i = (d : Int)), True := fun _ _ => trivial
    clear go
    have hidx2 : Calls Tryz.prog 144 #[.string s, .func (.func 145) #[] #[]] w fun e w' => (∃ i : Int, e = .returned (.int .i64 i) ∧ ((i = -1 ∧ d = s.size) ∨ (i = (d : Int)))) ∧ Below w.heap.size w w' := hidx.mono (by
      rintro e w' ⟨rfl, hb⟩
      refine ⟨⟨_, rfl, ?_⟩, hb⟩
      split
      · exact .inl ⟨rfl, by assumption⟩
      · exact .inr rfl)
    clear hidx
    rcases htest with h4 | ⟨h4, h5⟩
    all_goals
      go_enter Tryz.func114, Tryz.ntmps114
      go_wp2_with fail
      refine hidx2.mono ?_
      rintro e w1 ⟨⟨i, rfl, hi⟩, hb1⟩
      have HB1 := Lib.hid hb1
      have HV1 := Lib.hid (HV.out.below hb1 (Nat.le_refl _))
      clear hb1 hidx2
      rcases hi with ⟨rfl, hd⟩ | rfl
      · have Ht2 : Hid (s.data.toList = s.data.toList.take d) := Lib.hid (by rw [hd, List.take_of_length_le (by simp)])
        have HUd : Hid (∀ W, Vlo W → Calls Tryz.prog 146 #[.int .i64 k, .string ByteArray.empty] W fun e w' => e = .returned (.int .i64 m) ∧ Below W.heap.size W w') := Lib.hid fun W hW => (Unit_any k ByteArray.empty W hW.units).mono fun e w' ⟨he, hb⟩ => ⟨by rw [he, Hm.out, hd, List.drop_of_length_le (by simp)]; rfl, hb⟩
        clear hd
        go_wp2_with fail
        have hSt : Hid (Below w1.heap.size w1 w1) := Lib.hid (Below.refl _ _)
        go_region_held3 (fun w' => Hid (Below w1.heap.size w1 w'))
          (first | assumption | exact sb_drew (by assumption))
          (first | (go_at_call 146; refine (HUd.out _ (sb_vlo HV1.out (by assumption))).mono ?_; rintro e w' ⟨rfl, hb⟩; have hS' := sb_call (by assumption) hb; clear hb))
        all_goals
          rename_i hH
          go_wp2_with fail
          go_ret2
          exact ⟨⟨s, Ht2.out, rfl⟩, HB1.out.trans (hH.out.mono HB1.out.size)⟩
      · have HUd : Hid (∀ W, Vlo W → Calls Tryz.prog 146 #[.int .i64 k, .string (s.extract d s.size)] W fun e w' => e = .returned (.int .i64 m) ∧ Below W.heap.size W w') := Lib.hid fun W hW => (HU.out W hW).mono fun e w' ⟨he, hb⟩ => ⟨by rw [he, Hm.out, Hd.out], hb⟩
        go_wp2_with fail
        have hSt : Hid (Below w1.heap.size w1 w1) := Lib.hid (Below.refl _ _)
        go_region_held3 (fun w' => Hid (Below w1.heap.size w1 w'))
          (first | assumption | exact sb_drew (by assumption))
          (first | (go_at_call 146; refine (HUd.out _ (sb_vlo HV1.out (by assumption))).mono ?_; rintro e w' ⟨rfl, hb⟩; have hS' := sb_call (by assumption) hb; clear hb))
        all_goals
          rename_i hH
          go_wp2_with fail
          go_ret2
          exact ⟨⟨_, Ht.out, rfl⟩, HB1.out.trans (hH.out.mono HB1.out.size)⟩

end Go.Proofs.YtpfhhaonfbfheaaGreatDoor.va
/- value.parseBool, parseText, parseWords return plain functions. Conditions: the listed variables hold what the program's text lays; the text is no longer than 2147483647 bytes. -/
namespace Go.Proofs.YtpfhhaonfbfheaaGreatDoor.va
open Go.ChangeShapes Go.WideShapes Go.ChangeAt Go.RowKit gl

/-- The result's cells stand where they were laid. -/
theorem res_cells {w w1 : World} {a b c d : Value} {t : TypeId} (hb : Below (w.alloc (.cells #[a, b, c, d] t)).heap.size (w.alloc (.cells #[a, b, c, d] t)) w1) :
    (w1.cell? ⟨w.heap.size, 0, none⟩ = some a ∧ w1.cell? ⟨w.heap.size, 1, none⟩ = some b ∧ w1.cell? ⟨w.heap.size, 2, none⟩ = some c ∧ w1.cell? ⟨w.heap.size, 3, none⟩ = some d) ∧
    (w1.frozen? ⟨w.heap.size, 0, none⟩ = false ∧ w1.frozen? ⟨w.heap.size, 1, none⟩ = false ∧ w1.frozen? ⟨w.heap.size, 2, none⟩ = false ∧ w1.frozen? ⟨w.heap.size, 3, none⟩ = false) := by
  have h : w1.heap[w.heap.size]? = some (.cells #[a, b, c, d] t (0, 0)) := (hb.block _ (by simp)).trans (heap_alloc_new w _)
  have hc := fun j => cell_of_row w1 w.heap.size j _ _ _ h
  have hf := fun j => frozen_of_row w1 w.heap.size j _ _ h
  exact ⟨⟨hc 0, hc 1, hc 2, hc 3⟩, hf 0, hf 1, hf 2, hf 3⟩
/-- The result is written. -/
theorem four_done {w1 W : World} {b : Nat} {o0 o1 o2 o3 v0 v1 v2 v3 : Value} {t : TypeId} {f : Nat × Nat} (h : w1.heap[b]? = some (.cells #[o0, o1, o2, o3] t f))
    (hW : (((w1.setCell ⟨b, 0, none⟩ v0).setCell ⟨b, 1, none⟩ v1).setCell ⟨b, 2, none⟩ v2).setCell ⟨b, 3, none⟩ v3 = W) :
    (W.cell? ⟨b, 0, none⟩ = some v0 ∧ W.cell? ⟨b, 1, none⟩ = some v1 ∧ W.cell? ⟨b, 2, none⟩ = some v2 ∧ W.cell? ⟨b, 3, none⟩ = some v3) ∧ W.heap.size = w1.heap.size ∧ (∀ (k : Nat), k ≠ b → W.heap[k]? = w1.heap[k]?) ∧ (∀ (n : Nat) (w : World), Below n w w1 → n ≤ b → Below n w W) := by
  have h0 := heap_set (o := 0) h v0
  have h1 := heap_set (o := 1) h0 v1
  have h2 := heap_set (o := 2) h1 v2
  have h3 := heap_set (o := 3) h2 v3
  rw [hW] at h3
  have hc := fun j => cell_of_row W b j _ _ _ h3
  refine ⟨⟨hc 0, hc 1, hc 2, hc 3⟩, by rw [← hW]; simp [World.setCell], fun k hk => ?_, fun n w hb hn => ?_⟩
  · rw [← hW]
    exact (((Below.heap_setCell _ ⟨b, 3, none⟩ v3 k hk).trans (Below.heap_setCell _ ⟨b, 2, none⟩ v2 k hk)).trans (Below.heap_setCell _ ⟨b, 1, none⟩ v1 k hk)).trans (Below.heap_setCell _ ⟨b, 0, none⟩ v0 k hk)
  · rw [← hW]
    exact (((hb.setCell (p := ⟨b, 0, none⟩) hn v0).setCell (p := ⟨b, 1, none⟩) hn v1).setCell (p := ⟨b, 2, none⟩) hn v2).setCell (p := ⟨b, 3, none⟩) hn v3
theorem new_block {w w1 : World} {o : Obj} (hb : Below (w.alloc o).heap.size (w.alloc o) w1) : w1.heap[w.heap.size]? = (w.alloc o).heap[w.heap.size]? := hb.block _ (by simp)
/-- What Parse returns: a value, its words in a slice, an error's number. -/
def res (r : Val × Int) (sl : Value) : Value := .tuple #[rep r.1 sl, .int .i64 r.2]

theorem pb_yes {l : List UInt8} (h : (l == [116, 114, 117, 101]) = true ∨ (l == [121, 101, 115]) = true ∨ (l == [111, 110]) = true) : parseBool l = (⟨1, 1, ByteArray.empty, []⟩, 0) := by
  rcases h with h | h | h <;> rw [eq_of_beq h] <;> rfl
theorem pb_no {l : List UInt8} (h : (l == [102, 97, 108, 115, 101]) = true ∨ (l == [110, 111]) = true ∨ (l == [111, 102, 102]) = true) : parseBool l = (⟨1, 0, ByteArray.empty, []⟩, 0) := by
  rcases h with h | h | h <;> rw [eq_of_beq h] <;> rfl
theorem pb_none {l : List UInt8} (h1 : (l == [116, 114, 117, 101]) = false) (h2 : (l == [121, 101, 115]) = false) (h3 : (l == [111, 110]) = false) (h4 : (l == [102, 97, 108, 115, 101]) = false) (h5 : (l == [110, 111]) = false) (h6 : (l == [111, 102, 102]) = false) :
    parseBool l = (zero, 40) := by
  rw [beq_eq_false_iff_ne] at h1 h2 h3 h4 h5 h6
  unfold parseBool
  rw [show yes l = false from decide_eq_false (fun h => h.elim h1 fun h => h.elim h2 h3), show no l = false from decide_eq_false (fun h => h.elim h4 fun h => h.elim h5 h6)]
  rfl
theorem parseBool_any (s : ByteArray) (w : World) :
    Calls Tryz.prog 92 #[.string s] w fun e w' => e = .returned (res (parseBool s.data.toList) (.slice none 0 0)) ∧ Below w.heap.size w w' := by
  rw [← ByteArray.toList_eq s]
  cases h1 : (s.toList == [116, 114, 117, 101]) with
  | true =>
    have H := Lib.hid (pb_yes (.inl h1))
    go_enter Tryz.func92, Tryz.ntmps92
    go_wp2
    go_returns
    exact ⟨by rw [H.out]; rfl, by go_grown⟩
  | false =>
    cases h2 : (s.toList == [121, 101, 115]) with
    | true =>
      have H := Lib.hid (pb_yes (.inr (.inl h2)))
      go_enter Tryz.func92, Tryz.ntmps92
      go_wp2
      go_returns
      exact ⟨by rw [H.out]; rfl, by go_grown⟩
    | false =>
      cases h3 : (s.toList == [111, 110]) with
      | true =>
        have H := Lib.hid (pb_yes (.inr (.inr h3)))
        go_enter Tryz.func92, Tryz.ntmps92
        go_wp2
        go_returns
        exact ⟨by rw [H.out]; rfl, by go_grown⟩
      | false =>
        cases h4 : (s.toList == [102, 97, 108, 115, 101]) with
        | true =>
          have H := Lib.hid (pb_no (.inl h4))
          go_enter Tryz.func92, Tryz.ntmps92
          go_wp2
          go_returns
          exact ⟨by rw [H.out]; rfl, by go_grown⟩
        | false =>
          cases h5 : (s.toList == [110, 111]) with
          | true =>
            have H := Lib.hid (pb_no (.inr (.inl h5)))
            go_enter Tryz.func92, Tryz.ntmps92
            go_wp2
            go_returns
            exact ⟨by rw [H.out]; rfl, by go_grown⟩
          | false =>
            cases h6 : (s.toList == [111, 102, 102]) with
            | true =>
              have H := Lib.hid (pb_no (.inr (.inr h6)))
              go_enter Tryz.func92, Tryz.ntmps92
              go_wp2
              go_returns
              exact ⟨by rw [H.out]; rfl, by go_grown⟩
            | false =>
              have H := Lib.hid (pb_none h1 h2 h3 h4 h5 h6)
              go_enter Tryz.func92, Tryz.ntmps92
              go_wp2
              go_returns
              exact ⟨by rw [H.out]; rfl, by go_grown⟩

set_option maxHeartbeats 1000000 in
theorem parseText_any (s : ByteArray) (w : World) :
    Calls Tryz.prog 94 #[.string s] w fun e w' => e = .returned (res (parseText s.data.toList) (.slice none 0 0)) ∧ Below w.heap.size w w' := by
  have hp := fun W => printable_any s W
  have HE : Hid (∀ b, prnAll s.data.toList = b → parseText s.data.toList = if b then (if 200 < s.size then (zero, 42) else (⟨5, 0, s, []⟩, 0)) else (zero, 40)) := Lib.hid (by
    rintro b rfl
    unfold parseText prnAll
    rw [show s.data.toList.length = s.size by simp, B_toList])
  generalize prnAll s.data.toList = b at *
  have He := Lib.hid (HE.out b rfl)
  clear HE
  cases b with
  | false =>
    go_enter Tryz.func94, Tryz.ntmps94
    go_wp2_with fail
    refine (hp _).mono ?_
    rintro e w1 ⟨rfl, hb⟩
    have Hb := Lib.hid hb
    have Hblk := Lib.hid ((new_block hb).trans (heap_alloc_new w _))
    obtain ⟨⟨c0, c1, c2, c3⟩, f0, f1, f2, f3⟩ := res_cells hb
    clear hb
    go_wp2_with fail
    generalize hW : World.setCell (World.setCell (World.setCell (World.setCell w1 _ _) _ _) _ _) _ _ = W
    obtain ⟨⟨g0, g1, g2, g3⟩, _, _, hbel⟩ := four_done Hblk.out hW
    have HB := Lib.hid (hbel w.heap.size w ((((Below.refl _ w).alloc (Nat.le_refl _) _)).trans (Hb.out.mono (by simp))) (Nat.le_refl _))
    clear hW hbel
    (try simp only [Exit.inBlock, Exit.then])
    refine bodyPost_ret (by simp [results, Tryz.results94, go_sem, g0, g1, g2, g3]; try rfl) rfl ?_
    exact ⟨by rw [He.out]; rfl, HB.out⟩
  | true =>
    by_cases h200 : 200 < s.size
    · have He2 := Lib.hid (He.out.trans ((if_pos rfl).trans (if_pos h200)))
      go_enter Tryz.func94, Tryz.ntmps94
      go_wp2_with fail
      refine (hp _).mono ?_
      rintro e w1 ⟨rfl, hb⟩
      have Hb := Lib.hid hb
      have Hblk := Lib.hid ((new_block hb).trans (heap_alloc_new w _))
      obtain ⟨⟨c0, c1, c2, c3⟩, f0, f1, f2, f3⟩ := res_cells hb
      clear hb
      go_wp2_with fail
      generalize hW : World.setCell (World.setCell (World.setCell (World.setCell w1 _ _) _ _) _ _) _ _ = W
      obtain ⟨⟨g0, g1, g2, g3⟩, _, _, hbel⟩ := four_done Hblk.out hW
      have HB := Lib.hid (hbel w.heap.size w ((((Below.refl _ w).alloc (Nat.le_refl _) _)).trans (Hb.out.mono (by simp))) (Nat.le_refl _))
      clear hW hbel
      (try simp only [Exit.inBlock, Exit.then])
      refine bodyPost_ret (by simp [results, Tryz.results94, go_sem, g0, g1, g2, g3]; try rfl) rfl ?_
      exact ⟨by rw [He2.out]; rfl, HB.out⟩
    · have He2 := Lib.hid (He.out.trans ((if_pos rfl).trans (if_neg h200)))
      go_enter Tryz.func94, Tryz.ntmps94
      go_wp2_with fail
      refine (hp _).mono ?_
      rintro e w1 ⟨rfl, hb⟩
      have Hb := Lib.hid hb
      have Hblk := Lib.hid ((new_block hb).trans (heap_alloc_new w _))
      obtain ⟨⟨c0, c1, c2, c3⟩, f0, f1, f2, f3⟩ := res_cells hb
      clear hb
      go_wp2_with fail
      generalize hW : World.setCell (World.setCell (World.setCell (World.setCell w1 _ _) _ _) _ _) _ _ = W
      obtain ⟨⟨g0, g1, g2, g3⟩, _, _, hbel⟩ := four_done Hblk.out hW
      have HB := Lib.hid (hbel w.heap.size w ((((Below.refl _ w).alloc (Nat.le_refl _) _)).trans (Hb.out.mono (by simp))) (Nat.le_refl _))
      clear hW hbel
      (try simp only [Exit.inBlock, Exit.then])
      refine bodyPost_ret (by simp [results, Tryz.results94, go_sem, g0, g1, g2, g3]; try rfl) rfl ?_
      exact ⟨by rw [He2.out]; rfl, HB.out⟩

end Go.Proofs.YtpfhhaonfbfheaaGreatDoor.va
/- value.parseNumber returns the plain function. Conditions: the listed variables hold what the program's text lays; the text is no longer than 2147483647 bytes. -/
namespace Go.Proofs.YtpfhhaonfbfheaaGreatDoor.va
open Go.ChangeShapes Go.WideShapes Go.ChangeAt Go.RowKit gl

theorem hasPrefix_45 (l : List UInt8) : Lib.hasPrefix l [45] = decide (l.head? = some 45) := by
  cases l with
  | nil => rfl
  | cons c r =>
    by_cases h : c = 45
    · subst h; rfl
    · have : ((45 : UInt8) == c) = false := by rw [beq_eq_false_iff_ne]; exact fun e => h e.symm
      simp [Lib.hasPrefix, List.isPrefixOf, h, this]
theorem cutp_45 (s : ByteArray) (w : World) : Calls Tryz.prog 89 #[.string s, .string ⟨#[45]⟩] w fun e w' => (∃ t : ByteArray, t.data.toList = (if s.data.toList.head? = some 45 then s.data.toList.tail else s.data.toList) ∧ e = .returned (.tuple #[.string t, .bool (decide (s.data.toList.head? = some 45))])) ∧ w' = w := by
  refine (Tryz.strings_CutPrefix s ⟨#[45]⟩ w).mono ?_
  rintro e w' ⟨rfl, rfl⟩
  refine ⟨⟨_, ?_, by rw [← hasPrefix_45]⟩, rfl⟩
  show Lib.trimPrefix s.data.toList [45] = _
  unfold Lib.trimPrefix
  rw [hasPrefix_45]
  by_cases h : s.data.toList.head? = some 45
  · simp [h]
  · simp [h]
theorem tdiv_ediv {a b : Int} (h : 0 ≤ a) : a.tdiv b = a / b := by rw [tdiv_eq_if, if_pos h]
theorem ends_2 (w : World) : Calls Tryz.prog 116 #[.int .i64 2] w fun e w' => e = .returned (.tuple #[.int .i64 (-4611686018427387904), .int .i64 4611686018427387904]) ∧ w' = w := ends_any 2 w
theorem ends_u (k : Int) (hk : k = 3 ∨ k = 4) (w : World) : Calls Tryz.prog 116 #[.int .i64 k] w fun e w' => e = .returned (.tuple #[.int .i64 0, .int .i64 (most k)]) ∧ w' = w := by
  have := ends_any k w
  rwa [show least k = 0 from by unfold least; rw [if_neg (by omega)]] at this
theorem okNum_t {o : Option Nat} {n : Int} (h : okNum o n true) : ∃ m : Nat, o = some m ∧ n = m := by
  obtain ⟨h1, h2⟩ := h
  cases o with
  | none => cases h1
  | some m => exact ⟨m, rfl, h2 m rfl⟩
theorem okNum_f {o : Option Nat} {n : Int} (h : okNum o n false) : o = none := by
  cases o with
  | none => rfl
  | some m => exact absurd h.1 (by simp)
theorem parseInt_eq (l : List UInt8) : parseInt l = match num (if l.head? = some 45 then l.tail else l) with
    | none => (zero, 40)
    | some n => if l.head? = some 45 ∧ n = 0 then (zero, 40) else if 4611686018427387904 < n then (zero, 41) else (⟨2, if l.head? = some 45 then -(n : Int) else n, ByteArray.empty, []⟩, 0) := rfl

set_option maxHeartbeats 1000000 in
set_option maxRecDepth 100000 in
theorem parseInt_any (s : ByteArray) (hs : s.size ≤ 2147483647) (w : World) (hV : Vlo w) :
    Calls Tryz.prog 93 #[.int .i64 2, .string s] w fun e w' => e = .returned (res (parseInt s.data.toList) (.slice none 0 0)) ∧ Below w.heap.size w w' := by
  have HV := Lib.hid hV
  clear hV
  have hc := fun W => cutp_45 s W
  have hE := parseInt_eq s.data.toList
  have hlen : (if s.data.toList.head? = some 45 then s.data.toList.tail else s.data.toList).length ≤ s.size := by split <;> simp
  have HL := Lib.hid hlen
  clear hlen
  obtain ⟨T, hT⟩ : ∃ T, (if s.data.toList.head? = some 45 then s.data.toList.tail else s.data.toList) = T := ⟨_, rfl⟩
  simp only [hT] at hc hE HL
  have HN := Lib.hid (fun (t : ByteArray) (ht : t.data.toList = T) (W : World) (hb : Below w.heap.size w W) => number_any t (by have := HL.out; rw [← ht] at this; simp at this; omega) W (HV.out.below hb (Nat.le_refl _)))
  by_cases hneg : s.data.toList.head? = some 45
  · rw [decide_eq_true hneg] at hc
    simp only [hneg, if_true, true_and] at hE
    have HE := Lib.hid hE
    clear hE hneg hT
    go_enter Tryz.func93, Tryz.ntmps93
    go_wp2_with fail
    refine (hc _).mono ?_
    rintro e w1 ⟨⟨t, ht, rfl⟩, rfl⟩
    have Ht := Lib.hid ht
    clear ht
    go_wp2_with fail
    refine (HN.out t Ht.out _ ((Below.refl _ w).alloc (Nat.le_refl _) _)).mono ?_
    rintro e w2 ⟨⟨n, b, rfl, hok, hn0, hn1⟩, hb2⟩
    have Hb := Lib.hid hb2
    rw [Ht.out] at hok
    clear hb2 hc
    have Hblk := Lib.hid ((new_block Hb.out).trans (heap_alloc_new w _))
    obtain ⟨⟨c0, c1, c2, c3⟩, f0, f1, f2, f3⟩ := res_cells Hb.out
    cases b with
    | false =>
      have He : Hid (parseInt s.data.toList = (zero, 40)) := Lib.hid (by rw [HE.out, okNum_f hok])
      clear hok
      go_wp2_with fail
      generalize hW : World.setCell (World.setCell (World.setCell (World.setCell w2 _ _) _ _) _ _) _ _ = W
      obtain ⟨⟨g0, g1, g2, g3⟩, _, _, hbel⟩ := four_done Hblk.out hW
      have HB := Lib.hid (hbel w.heap.size w ((((Below.refl _ w).alloc (Nat.le_refl _) _)).trans (Hb.out.mono (by simp))) (Nat.le_refl _))
      clear hW hbel
      (try simp only [Exit.inBlock, Exit.then])
      refine bodyPost_ret (by simp [results, Tryz.results93, go_sem, g0, g1, g2, g3]; try rfl) rfl ?_
      exact ⟨by rw [He.out]; rfl, HB.out⟩
    | true =>
      obtain ⟨m, hm, rfl⟩ := okNum_t hok
      have HE2 := Lib.hid (HE.out.trans (by rw [hm]))
      simp only at HE2
      clear hok hm
      by_cases h0 : m = 0
      · have He : Hid (parseInt s.data.toList = (zero, 40)) := Lib.hid (by rw [HE2.out, if_pos h0])
        subst h0
        go_wp2_with fail
        generalize hW : World.setCell (World.setCell (World.setCell (World.setCell w2 _ _) _ _) _ _) _ _ = W
        obtain ⟨⟨g0, g1, g2, g3⟩, _, _, hbel⟩ := four_done Hblk.out hW
        have HB := Lib.hid (hbel w.heap.size w ((((Below.refl _ w).alloc (Nat.le_refl _) _)).trans (Hb.out.mono (by simp))) (Nat.le_refl _))
        clear hW hbel
        (try simp only [Exit.inBlock, Exit.then])
        refine bodyPost_ret (by simp [results, Tryz.results93, go_sem, g0, g1, g2, g3]; try rfl) rfl ?_
        exact ⟨by rw [He.out]; rfl, HB.out⟩
      · have h0' : ((m : Int) == 0) = false := by simp; omega
        by_cases h62 : 4611686018427387904 < m
        · have He : Hid (parseInt s.data.toList = (zero, 41)) := Lib.hid (by rw [HE2.out, if_neg h0, if_pos h62])
          go_wp2_with fail
          refine (ends_2 _).mono ?_
          rintro e w3 ⟨rfl, rfl⟩
          go_wp2_with fail
          generalize hW : World.setCell (World.setCell (World.setCell (World.setCell w3 _ _) _ _) _ _) _ _ = W
          obtain ⟨⟨g0, g1, g2, g3⟩, _, _, hbel⟩ := four_done Hblk.out hW
          have HB := Lib.hid (hbel w.heap.size w ((((Below.refl _ w).alloc (Nat.le_refl _) _)).trans (Hb.out.mono (by simp))) (Nat.le_refl _))
          clear hW hbel
          (try simp only [Exit.inBlock, Exit.then])
          refine bodyPost_ret (by simp [results, Tryz.results93, go_sem, g0, g1, g2, g3]; try rfl) rfl ?_
          exact ⟨by rw [He.out]; rfl, HB.out⟩
        · have He : Hid (parseInt s.data.toList = (⟨2, -(m : Int), ByteArray.empty, []⟩, 0)) := Lib.hid (by rw [HE2.out, if_neg h0, if_neg h62])
          go_wp2_with fail
          refine (ends_2 _).mono ?_
          rintro e w3 ⟨rfl, rfl⟩
          go_wp2_with fail
          generalize hW : World.setCell (World.setCell (World.setCell (World.setCell w3 _ _) _ _) _ _) _ _ = W
          obtain ⟨⟨g0, g1, g2, g3⟩, _, _, hbel⟩ := four_done Hblk.out hW
          have HB := Lib.hid (hbel w.heap.size w ((((Below.refl _ w).alloc (Nat.le_refl _) _)).trans (Hb.out.mono (by simp))) (Nat.le_refl _))
          clear hW hbel
          (try simp only [Exit.inBlock, Exit.then])
          refine bodyPost_ret (by simp [results, Tryz.results93, go_sem, g0, g1, g2, g3]; try rfl) rfl ?_
          exact ⟨by rw [He.out]; rfl, HB.out⟩
  · rw [decide_eq_false hneg] at hc
    simp only [hneg, if_false, false_and] at hE
    have HE := Lib.hid hE
    have Hs : Hid (s.data.toList = T) := Lib.hid (by rw [← hT, if_neg hneg])
    clear hE hneg hT
    go_enter Tryz.func93, Tryz.ntmps93
    go_wp2_with fail
    refine (hc _).mono ?_
    rintro e w1 ⟨⟨t, ht, rfl⟩, rfl⟩
    have Ht := Lib.hid ht
    clear ht
    go_wp2_with fail
    refine (HN.out s Hs.out _ ((Below.refl _ w).alloc (Nat.le_refl _) _)).mono ?_
    rintro e w2 ⟨⟨n, b, rfl, hok, hn0, hn1⟩, hb2⟩
    have Hb := Lib.hid hb2
    rw [Hs.out] at hok
    clear hb2 hc
    have Hblk := Lib.hid ((new_block Hb.out).trans (heap_alloc_new w _))
    obtain ⟨⟨c0, c1, c2, c3⟩, f0, f1, f2, f3⟩ := res_cells Hb.out
    cases b with
    | false =>
      have He : Hid (parseInt s.data.toList = (zero, 40)) := Lib.hid (by rw [HE.out, okNum_f hok])
      clear hok
      go_wp2_with fail
      generalize hW : World.setCell (World.setCell (World.setCell (World.setCell w2 _ _) _ _) _ _) _ _ = W
      obtain ⟨⟨g0, g1, g2, g3⟩, _, _, hbel⟩ := four_done Hblk.out hW
      have HB := Lib.hid (hbel w.heap.size w ((((Below.refl _ w).alloc (Nat.le_refl _) _)).trans (Hb.out.mono (by simp))) (Nat.le_refl _))
      clear hW hbel
      (try simp only [Exit.inBlock, Exit.then])
      refine bodyPost_ret (by simp [results, Tryz.results93, go_sem, g0, g1, g2, g3]; try rfl) rfl ?_
      exact ⟨by rw [He.out]; rfl, HB.out⟩
    | true =>
      obtain ⟨m, hm, rfl⟩ := okNum_t hok
      have HE2 := Lib.hid (HE.out.trans (by rw [hm]))
      simp only at HE2
      clear hok hm
      by_cases h62 : 4611686018427387904 < m
      · have He : Hid (parseInt s.data.toList = (zero, 41)) := Lib.hid (by rw [HE2.out, if_pos h62])
        go_wp2_with fail
        refine (ends_2 _).mono ?_
        rintro e w3 ⟨rfl, rfl⟩
        go_wp2_with fail
        generalize hW : World.setCell (World.setCell (World.setCell (World.setCell w3 _ _) _ _) _ _) _ _ = W
        obtain ⟨⟨g0, g1, g2, g3⟩, _, _, hbel⟩ := four_done Hblk.out hW
        have HB := Lib.hid (hbel w.heap.size w ((((Below.refl _ w).alloc (Nat.le_refl _) _)).trans (Hb.out.mono (by simp))) (Nat.le_refl _))
        clear hW hbel
        (try simp only [Exit.inBlock, Exit.then])
        refine bodyPost_ret (by simp [results, Tryz.results93, go_sem, g0, g1, g2, g3]; try rfl) rfl ?_
        exact ⟨by rw [He.out]; rfl, HB.out⟩
      · have He : Hid (parseInt s.data.toList = (⟨2, (m : Int), ByteArray.empty, []⟩, 0)) := Lib.hid (by rw [HE2.out, if_neg h62])
        go_wp2_with fail
        refine (ends_2 _).mono ?_
        rintro e w3 ⟨rfl, rfl⟩
        go_wp2_with fail
        generalize hW : World.setCell (World.setCell (World.setCell (World.setCell w3 _ _) _ _) _ _) _ _ = W
        obtain ⟨⟨g0, g1, g2, g3⟩, _, _, hbel⟩ := four_done Hblk.out hW
        have HB := Lib.hid (hbel w.heap.size w ((((Below.refl _ w).alloc (Nat.le_refl _) _)).trans (Hb.out.mono (by simp))) (Nat.le_refl _))
        clear hW hbel
        (try simp only [Exit.inBlock, Exit.then])
        refine bodyPost_ret (by simp [results, Tryz.results93, go_sem, g0, g1, g2, g3]; try rfl) rfl ?_
        exact ⟨by rw [He.out]; rfl, HB.out⟩

set_option maxHeartbeats 1000000 in
set_option maxRecDepth 100000 in
theorem parseUnit_any (k : Int) (hk : k = 3 ∨ k = 4) (s : ByteArray) (hs : s.size ≤ 2147483647) (w : World) (hV : Vlo w) :
    Calls Tryz.prog 93 #[.int .i64 k, .string s] w fun e w' => e = .returned (res (parseUnit k s.data.toList) (.slice none 0 0)) ∧ Below w.heap.size w w' := by
  have HV := Lib.hid hV
  clear hV
  have hk2 : (k == 2) = false := by simp; omega
  have Hc := Lib.hid (fun (W : World) (hb : Below w.heap.size w W) => cut_any k s hs W (HV.out.below hb (Nat.le_refl _)))
  have hU : 0 ≤ tail k s.data.toList ∧ tail k s.data.toList ≤ 1073741824 := by
    unfold tail
    split
    · omega
    · exact unit_nonneg _ _
  have hM : 0 ≤ most k ∧ most k ≤ 1125899906842624 := by rcases hk with rfl | rfl <;> decide
  have Hends := Lib.hid (ends_u k hk)
  have HE : Hid (parseUnit k s.data.toList = match num (s.data.toList.take (digs s.data.toList)) with
    | none => (zero, 40)
    | some n => if tail k s.data.toList = 0 then (zero, 40) else if most k / tail k s.data.toList < n then (zero, 41) else (⟨k, n * tail k s.data.toList, ByteArray.empty, []⟩, 0)) := Lib.hid rfl
  have HL : Hid ((s.data.toList.take (digs s.data.toList)).length ≤ s.size) := Lib.hid (by simp; omega)
  generalize tail k s.data.toList = u at *
  generalize most k = M at *
  generalize s.data.toList.take (digs s.data.toList) = T at *
  have HN := Lib.hid (fun (t : ByteArray) (ht : t.data.toList = T) (W : World) (hb : Below w.heap.size w W) => number_any t (by have := HL.out; rw [← ht] at this; simp at this; omega) W (HV.out.below hb (Nat.le_refl _)))
  have Hk := Lib.hid hk
  obtain ⟨hu0, hu1⟩ := hU
  obtain ⟨hM0, hM1⟩ := hM
  clear hk
  go_enter Tryz.func93, Tryz.ntmps93
  go_wp2_with fail
  refine (Hc.out _ ((Below.refl _ w).alloc (Nat.le_refl _) _)).mono ?_
  rintro e w1 ⟨⟨t, ht, rfl⟩, hb1⟩
  have Ht := Lib.hid ht
  have Hb1 := Lib.hid hb1
  have hsz1 := hb1.size
  simp at hsz1
  clear ht hb1
  go_wp2_with fail
  refine (HN.out t Ht.out _ (((Below.refl _ w).alloc (Nat.le_refl _) _).trans (Hb1.out.mono (by simp)))).mono ?_
  rintro e w2 ⟨⟨n, b, rfl, hok, hn0, hn1⟩, hb2⟩
  have Hb := Lib.hid (Hb1.out.trans (hb2.mono Hb1.out.size))
  rw [Ht.out] at hok
  clear hb2
  have Hblk := Lib.hid ((new_block Hb.out).trans (heap_alloc_new w _))
  obtain ⟨⟨c0, c1, c2, c3⟩, f0, f1, f2, f3⟩ := res_cells Hb.out
  cases b with
  | false =>
    have He : Hid (parseUnit k s.data.toList = (zero, 40)) := Lib.hid (by rw [HE.out, okNum_f hok])
    clear hok
    go_wp2_with fail
    generalize hW : World.setCell (World.setCell (World.setCell (World.setCell w2 _ _) _ _) _ _) _ _ = W
    obtain ⟨⟨g0, g1, g2, g3⟩, _, _, hbel⟩ := four_done Hblk.out hW
    have HB := Lib.hid (hbel w.heap.size w ((((Below.refl _ w).alloc (Nat.le_refl _) _)).trans (Hb.out.mono (by simp))) (Nat.le_refl _))
    clear hW hbel
    (try simp only [Exit.inBlock, Exit.then])
    refine bodyPost_ret (by simp [results, Tryz.results93, go_sem, g0, g1, g2, g3]; try rfl) rfl ?_
    exact ⟨by rw [He.out]; rfl, HB.out⟩
  | true =>
    obtain ⟨m, hm, rfl⟩ := okNum_t hok
    have HE2 := Lib.hid (HE.out.trans (by rw [hm]))
    simp only at HE2
    clear hok hm
    by_cases h0 : u = 0
    · have He : Hid (parseUnit k s.data.toList = (zero, 40)) := Lib.hid (by rw [HE2.out, if_pos h0])
      subst h0
      go_wp2_with fail
      generalize hW : World.setCell (World.setCell (World.setCell (World.setCell w2 _ _) _ _) _ _) _ _ = W
      obtain ⟨⟨g0, g1, g2, g3⟩, _, _, hbel⟩ := four_done Hblk.out hW
      have HB := Lib.hid (hbel w.heap.size w ((((Below.refl _ w).alloc (Nat.le_refl _) _)).trans (Hb.out.mono (by simp))) (Nat.le_refl _))
      clear hW hbel
      (try simp only [Exit.inBlock, Exit.then])
      refine bodyPost_ret (by simp [results, Tryz.results93, go_sem, g0, g1, g2, g3]; try rfl) rfl ?_
      exact ⟨by rw [He.out]; rfl, HB.out⟩
    · have h0' : (u == 0) = false := by simp [h0]
      have hq : M.tdiv u = M / u := tdiv_ediv hM0
      have hqm : 0 ≤ M / u ∧ M / u ≤ M := ⟨Int.ediv_nonneg hM0 hu0, by
        have := Int.mul_le_mul_of_nonneg_left (show (1 : Int) ≤ u by omega) (Int.ediv_nonneg hM0 hu0)
        have := Int.ediv_mul_le M (b := u) h0
        omega⟩
      have Hmul : Hid ((m : Int) ≤ M / u → 0 ≤ (m : Int) * u ∧ (m : Int) * u ≤ M) := Lib.hid (fun h => ⟨Int.mul_nonneg (by omega) hu0, by
        have h2 := Int.mul_le_mul_of_nonneg_right h hu0
        have h3 := Int.ediv_mul_le M (b := u) h0
        omega⟩)
      generalize M / u = q at *
      obtain ⟨hq0, hqM⟩ := hqm
      by_cases hgt : q < m
      · have He : Hid (parseUnit k s.data.toList = (zero, 41)) := Lib.hid (by rw [HE2.out, if_neg h0, if_pos hgt])
        go_wp2_with fail
        refine (Hends.out _).mono ?_
        rintro e w3 ⟨rfl, rfl⟩
        go_wp2_with fail
        generalize hW : World.setCell (World.setCell (World.setCell (World.setCell w3 _ _) _ _) _ _) _ _ = W
        obtain ⟨⟨g0, g1, g2, g3⟩, _, _, hbel⟩ := four_done Hblk.out hW
        have HB := Lib.hid (hbel w.heap.size w ((((Below.refl _ w).alloc (Nat.le_refl _) _)).trans (Hb.out.mono (by simp))) (Nat.le_refl _))
        clear hW hbel
        (try simp only [Exit.inBlock, Exit.then])
        refine bodyPost_ret (by simp [results, Tryz.results93, go_sem, g0, g1, g2, g3]; try rfl) rfl ?_
        exact ⟨by rw [He.out]; rfl, HB.out⟩
      · have He : Hid (parseUnit k s.data.toList = (⟨k, m * u, ByteArray.empty, []⟩, 0)) := Lib.hid (by rw [HE2.out, if_neg h0, if_neg hgt])
        obtain ⟨hp0, hp1⟩ := Hmul.out (by omega)
        go_wp2_with fail
        refine (Hends.out _).mono ?_
        rintro e w3 ⟨rfl, rfl⟩
        go_wp2_with fail
        generalize hW : World.setCell (World.setCell (World.setCell (World.setCell w3 _ _) _ _) _ _) _ _ = W
        obtain ⟨⟨g0, g1, g2, g3⟩, _, _, hbel⟩ := four_done Hblk.out hW
        have HB := Lib.hid (hbel w.heap.size w ((((Below.refl _ w).alloc (Nat.le_refl _) _)).trans (Hb.out.mono (by simp))) (Nat.le_refl _))
        clear hW hbel
        (try simp only [Exit.inBlock, Exit.then])
        refine bodyPost_ret (by simp [results, Tryz.results93, go_sem, g0, g1, g2, g3]; try rfl) rfl ?_
        exact ⟨by rw [He.out]; rfl, HB.out⟩
end Go.Proofs.YtpfhhaonfbfheaaGreatDoor.va
/- slices.ContainsFunc at the two closures over glyph.IsWord; slices.Clip of strings; strings.Split and Join as lists. Conditions: the listed variables hold what the program's text lays; the texts are no longer than 2147483647 bytes. -/
namespace Go.Proofs.YtpfhhaonfbfheaaGreatDoor.va
open Go.ChangeShapes Go.WideShapes Go.ChangeAt Go.RowKit gl

def allW (xs : List ByteArray) : Bool := xs.all fun x => wordL x.data.toList
/-- A function that says which words are none. -/
def NotW (g : Nat) : Prop := ∀ (x : ByteArray) (W : World), x.size ≤ 2147483647 → Vlo W → Calls Tryz.prog g #[.string x] W fun e w' => e = .returned (.bool (!wordL x.data.toList)) ∧ Below W.heap.size W w'
theorem notW_parse : NotW 118 := by
  intro x W hx hV
  have hw := IsWord_any x hx W hV.glo
  clear hV
  generalize wordL x.data.toList = b at *
  go_enter Tryz.func118, Tryz.ntmps118
  go_wp2_with fail
  refine hw.mono ?_
  rintro e w1 ⟨rfl, hb⟩
  go_wp2_with fail
  go_ret
  exact ⟨rfl, hb⟩
theorem notW_right : NotW 121 := by
  intro x W hx hV
  have hw := IsWord_any x hx W hV.glo
  clear hV
  generalize wordL x.data.toList = b at *
  go_enter Tryz.func121, Tryz.ntmps121
  go_wp2_with fail
  refine hw.mono ?_
  rintro e w1 ⟨rfl, hb⟩
  go_wp2_with fail
  go_ret
  exact ⟨rfl, hb⟩

def goodW (xs : List ByteArray) (k : Nat) : Prop := ∀ (j : Nat) x, j < k → xs[j]? = some x → wordL x.data.toList = true
theorem goodW_succ {xs : List ByteArray} {k : Nat} {x : ByteArray} (h : goodW xs k) (hx : xs[k]? = some x) (hp : wordL x.data.toList = true) : goodW xs (k + 1) := by
  intro j y hj hy
  rcases Nat.lt_or_ge j k with h1 | h1
  · exact h j y h1 hy
  · obtain rfl : j = k := by omega
    rw [hx] at hy
    obtain rfl := Option.some.inj hy
    exact hp
theorem allW_good {xs : List ByteArray} (h : goodW xs xs.length) : allW xs = true := by
  unfold allW
  rw [List.all_eq_true]
  intro x hx
  obtain ⟨j, hj⟩ := List.mem_iff_getElem?.1 hx
  exact h j x (lt_of_get hj) hj
theorem allW_bad {xs : List ByteArray} {k : Nat} {x : ByteArray} (hx : xs[k]? = some x) (hp : wordL x.data.toList = false) : allW xs = false := by
  unfold allW
  rw [List.all_eq_false]
  exact ⟨x, List.mem_of_getElem? hx, by simp [hp]⟩
def IdxOut (xs : List ByteArray) (e : Ending) : Prop := ∃ r : Int, e = .returned (.int .i64 r) ∧ ((allW xs = true ∧ r < 0) ∨ (allW xs = false ∧ 0 ≤ r))

set_option maxHeartbeats 1000000 in
theorem idxW_any (g : Nat) (eg : ∀ args w, (callFunc g args).run Tryz.prog w = .ok (.enter g args) w) (hg : NotW g) (v : Value) (xs : List ByteArray) (hx : ∀ x ∈ xs, x.size ≤ 2147483647) (hl : xs.length ≤ 4294967295) (w : World) (hV : Vlo w) (hS : Strs w v xs) :
    Calls Tryz.prog 82 #[v, .func (.func g) #[] #[]] w fun e w' => IdxOut xs e ∧ Below w.heap.size w w' := by
  have HV := Lib.hid hV
  clear hV
  obtain ⟨p, c, rfl, hc, hat⟩ := hS
  have Hg := Lib.hid hg
  clear hg
  have Hxs := Lib.hid hx
  clear hx
  have Hat := Lib.hid hat
  clear hat
  obtain ⟨n, hn⟩ : ∃ n, xs.length = n := ⟨_, rfl⟩
  have Hn := Lib.hid hn
  rw [hn] at hl hc ⊢
  clear hn
  go_enter Tryz.func82, Tryz.ntmps82
  go_wp2_with fail
  go_loopw [8] (fun i wr => ∃ k : Nat, k ≤ n ∧ i = .int .i64 k ∧ goodW xs k ∧ Below w.heap.size w wr) (fun i _ => n - (intOf i).toNat)
  case atStart => exact ⟨0, by omega, rfl, fun j x h => by omega, Below.refl _ _⟩
  case round =>
    obtain ⟨k, hk, rfl, hgo, hb⟩ := hrel
    have Hgo := Lib.hid hgo
    have Hb := Lib.hid hb
    have hsz := hb.size
    clear hgo hb
    by_cases hlt : k < n
    · obtain ⟨x, hx⟩ : ∃ x, xs[k]? = some x := ⟨xs[k]'(by rw [Hn.out]; exact hlt), List.getElem?_eq_getElem _⟩
      have Hx := Lib.hid hx
      rcases Hat.out with hnil | ⟨b, o, rfl, hblt, hat⟩
      · rw [hnil] at hx; cases hx
      · have hcell : wr.cell? ⟨b, o + k, none⟩ = some (.string x) := (Hb.out.cell (p := ⟨b, o + k, none⟩) hblt).trans (hat k x hx)
        have HW := Lib.hid (Hg.out x wr (Hxs.out x (List.mem_of_getElem? hx)) (HV.out.below Hb.out (Nat.le_refl _)))
        clear hat hx
        cases hw : wordL x.data.toList with
        | true =>
          rw [hw] at HW
          have Hw := Lib.hid hw
          clear hw
          go_wp2_with (go_at_fn g; refine HW.out.mono ?_; rintro e w2 ⟨rfl, hb2⟩)
          go_roundw
          case rel => exact ⟨k + 1, by omega, by go_num, goodW_succ Hgo.out Hx.out Hw.out, Hb.out.trans (hb2.mono hsz)⟩
          case measure => simp [intOf]; omega
        | false =>
          rw [hw] at HW
          have Hw := Lib.hid hw
          clear hw
          go_wp2_with (go_at_fn g; refine HW.out.mono ?_; rintro e w2 ⟨rfl, hb2⟩)
          go_ret
          exact ⟨⟨_, rfl, .inr ⟨allW_bad Hx.out Hw.out, by omega⟩⟩, Hb.out.trans (hb2.mono hsz)⟩
    · obtain rfl : k = n := by omega
      go_wp2_with fail
      go_ret
      exact ⟨⟨_, rfl, .inl ⟨allW_good (by rw [Hn.out]; exact Hgo.out), by omega⟩⟩, Hb.out⟩

theorem containsW_any (g : Nat) (eg : ∀ args w, (callFunc g args).run Tryz.prog w = .ok (.enter g args) w) (hg : NotW g) (v : Value) (xs : List ByteArray) (hx : ∀ x ∈ xs, x.size ≤ 2147483647) (hl : xs.length ≤ 4294967295) (w : World) (hV : Vlo w) (hS : Strs w v xs) :
    Calls Tryz.prog 55 #[v, .func (.func g) #[] #[]] w fun e w' => e = .returned (.bool (!allW xs)) ∧ Below w.heap.size w w' := by
  have hi := idxW_any g eg hg v xs hx hl w hV hS
  clear hV hg hx eg hl hS
  unfold IdxOut at hi
  go_enter Tryz.func55, Tryz.ntmps55
  go_wp2_with fail
  refine hi.mono ?_
  rintro e w1 ⟨⟨r, rfl, ⟨ha, hr⟩ | ⟨ha, hr⟩⟩, hb⟩
  · go_wp2_with fail
    go_ret
    exact ⟨ret_bool (by rw [ha]; first | rfl | exact (decide_eq_false (by omega)).symm), hb⟩
  · go_wp2_with fail
    go_ret
    exact ⟨ret_bool (by rw [ha]; first | rfl | exact (decide_eq_true (by omega)).symm), hb⟩

theorem clip_any (p : Option Addr) (n c : Nat) (hn : n ≤ c) (w : World) : Calls Tryz.prog 120 #[.slice p n c] w fun e w' => e = .returned (.slice p n n) ∧ w = w' := by
  cases p with
  | none =>
    go_enter Tryz.func120, Tryz.ntmps120
    go_wp2_with fail
    go_ret
    exact ⟨rfl, rfl⟩
  | some a =>
    go_enter Tryz.func120, Tryz.ntmps120
    go_wp2_with fail
    go_ret
    exact ⟨rfl, rfl⟩
theorem map_mk {ps : List ByteArray} {L : List (List UInt8)} (h : ps.map (·.data.toList) = L) : ps = L.map B := by rw [← h, map_B]
theorem ret_sl {p : Option Addr} {a b c d : Nat} (h : a = b) (h2 : c = d) : Ending.returned (.slice p a c) = .returned (.slice p b d) := by rw [h, h2]
theorem splitW_any (s : ByteArray) (hs : s.size ≤ 2147483647) (w : World) (hV : Vlo w) :
    Calls Tryz.prog 76 #[.string s, .string ⟨#[44]⟩] w fun e w' => (e = .returned (.slice (some ⟨w.heap.size, 0, none⟩) (pcs 44 s.data.toList).length (pcs 44 s.data.toList).length) ∧ w'.heap[w.heap.size]? = some (.cells (((pcs 44 s.data.toList).map B).map Value.string).toArray 9 (0, 0))) ∧ w.heap.size < w'.heap.size ∧ Below w.heap.size w w' := by
  obtain ⟨m, hm⟩ := hV.glo.maxLen
  refine (Tryz.strings_Split s ⟨#[44]⟩ m w (by omega) hm (by simp [ByteArray.size])).mono ?_
  rintro e w' ⟨he, rfl⟩
  have hl : (Lib.splitB ⟨#[44]⟩ 0 (Lib.countB s ⟨#[44]⟩) s).length = Lib.countB s ⟨#[44]⟩ + 1 := Lib.splitB_all _ (by simp [ByteArray.size]) 0 _ s rfl
  have hp := map_mk (splitB_pcs 44 s)
  refine ⟨⟨?_, ?_⟩, by simp, (Below.refl _ w).alloc (Nat.le_refl _) _⟩
  · rw [he]
    exact ret_sl (by rw [← countB_pcs]) (by rw [← countB_pcs])
  · rw [heap_alloc_new, ← hp]
theorem strs_row {w : World} {b : Nat} {xs : List ByteArray} {t : TypeId} {f : Nat × Nat} (h : w.heap[b]? = some (.cells (xs.map Value.string).toArray t f)) (hb : b < w.heap.size) (c : Nat) (hc : xs.length ≤ c) : Strs w (.slice (some ⟨b, 0, none⟩) xs.length c) xs :=
  ⟨_, c, rfl, hc, .inr ⟨b, 0, rfl, hb, fun j x hj => by
    rw [cell_of_row w b _ _ _ _ h, Nat.zero_add]
    simp [hj]⟩⟩
/-- What Join gives. -/
theorem joinW_any (v : Value) (xs : List ByteArray) (w : World) (hS : Strs w v xs) (hl : xs.length ≤ 2147483647) (hj : (joined xs).length ≤ 140737488355328) :
    Calls Tryz.prog 122 #[v, .string ⟨#[44]⟩] w fun e w' => e = .returned (.string (B (joined xs))) ∧ Below w.heap.size w w' := by
  obtain ⟨p, c, rfl, hc, h⟩ := hS
  rcases h with rfl | ⟨b, o, rfl, hlt, hat⟩
  · refine (Tryz.strings_Join_none p c ⟨#[44]⟩ w).mono ?_
    rintro e w' ⟨rfl, rfl⟩
    exact ⟨rfl, Below.refl _ _⟩
  · exact Tryz.strings_Join b o c xs ⟨#[44]⟩ w hat hlt (by omega) hc hj
end Go.Proofs.YtpfhhaonfbfheaaGreatDoor.va
