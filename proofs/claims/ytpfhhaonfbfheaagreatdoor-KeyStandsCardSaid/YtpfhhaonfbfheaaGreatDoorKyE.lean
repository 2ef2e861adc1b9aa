/- Package key: the definition of a name, of a letter. Conditions: the set lies in memory as its list. -/
import Derived.Test.YtpfhhaonfbfheaaGreatDoorKyC
import Derived.Test.YtpfhhaonfbfheaaGreatDoorStp
namespace Go.Proofs.YtpfhhaonfbfheaaGreatDoor.ky
open Go.ChangeShapes Go.WideShapes Go.ChangeAt Go.RowKit gl va ls

def foundV : Option Ky → Value
  | some x => .tuple #[kyV x, .bool true]
  | none => .tuple #[kyV zK, .bool false]
def idxI : Option Nat → Int
  | some k => k
  | none => -1
theorem results_cell_row2 {P : Program} {fn : Func} {p u : Tmp} {ty : TypeId} (h : fn.results = #[.cell p ty, .tmp u]) (tmps : Array Value) (w : World) (g : Nat) (t : TypeId) (cs : Array Value) (fr : Nat × Nat) (d : TypeDesc)
    (hp : tmps.getD p undef = .pointer (some ⟨g, 0, none⟩)) (hg : w.heap[g]? = some (.cells cs t fr))
    (hu : P.underlying ty = some d) (hd : (match d with | .struct _ | .array _ _ => true | _ => false) = true) (hi : (P.info? ty).map (·.size) = some cs.size) :
    (results fn tmps).run P w = .ok (.tuple #[.agg cs, tmps.getD u undef]) w := by
  have hp' : tmps[p]?.getD undef = .pointer (some ⟨g, 0, none⟩) := by simpa using hp
  simp [results, h, hp', asAddr, run_loadVar_row w g t ty cs fr d hg hu hd hi]
/-- A definition stored into a block. -/
theorem stored {w : World} {g : Nat} {c0 c1 c2 c3 c4 c5 : Value} (h : w.heap[g]? = some (.cells #[c0, c1, c2, c3, c4, c5] 62 (0, 0))) (v0 v1 v2 v3 v4 v5 : Value) :
    ((((((w.setCell ⟨g, 0, none⟩ v0).setCell ⟨g, 1, none⟩ v1).setCell ⟨g, 2, none⟩ v2).setCell ⟨g, 3, none⟩ v3).setCell ⟨g, 4, none⟩ v4).setCell ⟨g, 5, none⟩ v5).heap[g]? = some (.cells #[v0, v1, v2, v3, v4, v5] 62 (0, 0)) :=
  heap_set (o := 5) (heap_set (o := 4) (heap_set (o := 3) (heap_set (o := 2) (heap_set (o := 1) (heap_set (o := 0) h v0) v1) v2) v3) v4) v5
theorem stored_bel {w w1 : World} {B g : Nat} (h : Below B w w1) (hg : B ≤ g) (v0 v1 v2 v3 v4 v5 : Value) :
    Below B w ((((((w1.setCell ⟨g, 0, none⟩ v0).setCell ⟨g, 1, none⟩ v1).setCell ⟨g, 2, none⟩ v2).setCell ⟨g, 3, none⟩ v3).setCell ⟨g, 4, none⟩ v4).setCell ⟨g, 5, none⟩ v5) :=
  (((((h.setCell (p := ⟨g, 0, none⟩) hg v0).setCell (p := ⟨g, 1, none⟩) hg v1).setCell (p := ⟨g, 2, none⟩) hg v2).setCell (p := ⟨g, 3, none⟩) hg v3).setCell (p := ⟨g, 4, none⟩) hg v4).setCell (p := ⟨g, 5, none⟩) hg v5
def fL (t : List UInt8) (x : Ky) : Bool := !decide (t = []) && decide (x.letter = t)
theorem find_idx (p : Ky → Bool) : ∀ S : List Ky, (S.findIdx? p = none → S.find? p = none) ∧ ∀ k, S.findIdx? p = some k → ∃ x, S[k]? = some x ∧ S.find? p = some x
  | [] => ⟨fun _ => rfl, fun k h => by simp at h⟩
  | y :: r => by
    obtain ⟨h1, h2⟩ := find_idx p r
    rw [List.findIdx?_cons, List.find?_cons]
    cases hy : p y with
    | true => exact ⟨fun h => by simp at h, fun k h => by simp at h; subst h; exact ⟨y, rfl, rfl⟩⟩
    | false =>
      refine ⟨fun h => h1 (by simpa using h), fun k h => ?_⟩
      simp only [Bool.false_eq_true, if_false, Option.map_eq_some_iff] at h
      obtain ⟨j, hj, rfl⟩ := h
      obtain ⟨x, hx, hf⟩ := h2 j hj
      exact ⟨x, by simpa using hx, hf⟩
theorem lett_find (S : List Ky) (t : List UInt8) : lettK S t = S.find? (fL t) := by
  unfold lettK fL
  by_cases h : t = []
  · rw [if_pos h]
    symm
    rw [List.find?_eq_none]
    intro x _
    simp [h]
  · rw [if_neg h]
    congr 1
    funext x
    simp [h]
theorem idxF_none (p : Option Addr) (c : Nat) (g : Nat) (lb : Array Value) (w : World) : Calls Tryz.prog 64 #[.slice p 0 c, .func (.func g) #[] lb] w fun e w' => e = .returned (.int .i64 (-1)) ∧ w = w' := by
  go_enter Tryz.func64, Tryz.ntmps64
  go_wp2_with fail
  refine wp_loop_rounds 1 ?_
  rw [rounds_succ]
  go_wp2_with fail
  go_ret
  exact ⟨rfl, rfl⟩
instance : Inhabited Ky := ⟨zK⟩
theorem idx_any (f : Ky → Bool) (g : Nat) (lb : Array Value) (eg : ∀ args w, (callFunc g args).run Tryz.prog w = .ok (.enter g args) w) (p : Option Addr) (m c : Nat) (l : List Ky) (hm : m ≤ 4294967295) (w : World) (h : rw.Rw kyC 6 w (.slice p m c) l)
    (hp : ∀ (W : World) (x : Ky), Below w.heap.size w W → Calls Tryz.prog g (#[.agg #[.string (B x.name), .int .i64 x.kind, .string (B x.dflt), .int .i64 x.least, .int .i64 x.most, .string (B x.letter)]] ++ lb) W fun e w' => e = .returned (.bool (f x)) ∧ Below w.heap.size w w') :
    Calls Tryz.prog 64 #[.slice p m c, .func (.func g) #[] lb] w fun e w' => e = .returned (.int .i64 (idxI (l.findIdx? f))) ∧ Below w.heap.size w w' := by
  obtain ⟨hlen, hmc, hptr⟩ := h.ptr
  rcases Nat.eq_zero_or_pos m with h0 | h0
  · subst h0
    obtain rfl : l = [] := List.length_eq_zero_iff.1 hlen
    refine (idxF_none p c g lb w).mono ?_
    rintro e w' ⟨rfl, rfl⟩
    exact ⟨rfl, Below.refl _ _⟩
  · obtain ⟨b, o, rfl, hb⟩ := hptr h0
    refine (AnyQ.slices_IndexFunc Tryz.idxKy 6 Tryz.isAgg62 Tryz.sizeOf62 kyC kyC_len f g lb eg b o m c l w hp (by omega) (by omega) hb (fun j hj i v hv => ?_)).mono ?_
    · rw [getElem!_pos l j hj] at hv
      have := h.cell (List.getElem?_eq_getElem hj) hv
      rw [Nat.add_assoc]
      exact this
    · rintro e w' ⟨rfl, hb'⟩
      refine ⟨?_, hb'⟩
      have ht : l.take m = l := by rw [← hlen]; exact List.take_length
      rw [ht]
      have hi : ∀ (r : List Ky) (i : Nat), Lib.idxByFrom (fun _ y => f y) default r i = match r.findIdx? f with | some k => ((i + k : Nat) : Int) | none => -1 := by
        intro r
        induction r with
        | nil => intro i; rfl
        | cons y r ih =>
          intro i
          rw [Lib.idxByFrom, List.findIdx?_cons]
          cases hy : f y with
          | true => simp
          | false =>
            rw [if_neg (by simp), if_neg (by simp), ih (i + 1)]
            cases r.findIdx? f with
            | none => rfl
            | some k => show ((i + 1 + k : Nat) : Int) = ((i + (k + 1) : Nat) : Int); congr 1; omega
      have hi0 : Lib.idxBy (fun _ y => f y) l default = idxI (l.findIdx? f) := by
        rw [Lib.idxBy, hi l 0]
        unfold idxI
        cases l.findIdx? f with
        | none => rfl
        | some k => simp
      rw [hi0]
theorem str_eq (l m : List UInt8) : ((B l).toList == (B m).toList) = decide (l = m) := by
  rw [ByteArray.toList_eq, ByteArray.toList_eq, Bool.eq_iff_iff, beq_iff_eq, decide_eq_true_iff]
  try simp
set_option maxHeartbeats 1000000 in
theorem letter1_any (x : Ky) (t : List UInt8) (bt : Nat) (w : World) (h1 : w.cell? ⟨bt, 0, none⟩ = some (.string (B t))) :
    Calls Tryz.prog 65 #[.agg #[.string (B x.name), .int .i64 x.kind, .string (B x.dflt), .int .i64 x.least, .int .i64 x.most, .string (B x.letter)], .pointer (some ⟨bt, 0, none⟩)] w fun e w' => e = .returned (.bool (fL t x)) ∧ Below w.heap.size w w' := by
  have hbt : bt < w.heap.size := World.block_lt_of_cell? _ _ h1
  have e1 := str_eq x.letter t
  have e2 : ((B t).toList == (⟨#[]⟩ : ByteArray).toList) = decide (t = []) := str_eq t []
  have e3 : ((B t).toList != (⟨#[]⟩ : ByteArray).toList) = !decide (t = []) := by rw [bne, e2]
  have e4 : (B t).toList.isEmpty = decide (t = []) := by rw [ByteArray.toList_eq]; cases t <;> simp
  have hr : Hid (∀ a b : Bool, decide (t = []) = a → decide (x.letter = t) = b → fL t x = (!a && b)) := Lib.hid fun a b h h' => by unfold fL; rw [h, h']
  have hb : Below w.heap.size w (w.alloc (.cells #[.string (B x.name), .int .i64 x.kind, .string (B x.dflt), .int .i64 x.least, .int .i64 x.most, .string (B x.letter)] 62)) := (Below.refl _ _).alloc (Nat.le_refl _) _
  have Hb := Lib.hid hb
  clear hb
  obtain ⟨a, ha⟩ : ∃ a, decide (t = []) = a := ⟨_, rfl⟩
  obtain ⟨b, hb⟩ : ∃ b, decide (x.letter = t) = b := ⟨_, rfl⟩
  rw [hr.out a b ha hb]
  rw [ha] at e2 e3 e4
  rw [hb] at e1
  clear ha hb hr
  generalize B t = tt at *
  generalize B x.name = nm at *
  generalize B x.dflt = df at *
  generalize B x.letter = lt at *
  cases a <;> cases b
  all_goals
    go_enter Tryz.func65, Tryz.ntmps65
    go_wp2_with fail
    go_ret
    exact ⟨rfl, Hb.out⟩
theorem eg65 (args : Array Value) (w : World) : (callFunc 65 args).run Tryz.prog w = .ok (.enter 65 args) w := enters Tryz.func65 (by kernel_rfl) (by kernel_rfl) args w
theorem SetK.form {M : Nat} {w : World} {b : Nat} {S : List Ky} (h : SetK M w b S) : ∃ p c, w.heap[b]? = some (.cells #[.slice p S.length c] 85 (0, 0)) ∧ rw.Rw kyC 6 w (.slice p S.length c) S := by
  obtain ⟨_, _, _, _, v, hv, hB⟩ := h
  obtain ⟨p, c, rfl⟩ := hB.form
  exact ⟨p, c, hv, blk_rw hB⟩
set_option maxHeartbeats 4000000 in
set_option maxRecDepth 100000 in
theorem Find_any (M b : Nat) (S : List Ky) (t : List UInt8) (w : World) (hS : SetK M w b S) :
    Calls Tryz.prog 40 #[.pointer (some ⟨b, 0, none⟩), .string (B t)] w fun e w' => e = .returned (foundV (findK S t)) ∧ Below w.heap.size w w' := by
  obtain ⟨wA, hA⟩ : ∃ wA, wA = w.alloc (.cells #[.string ⟨#[]⟩, .int .i64 0, .string ⟨#[]⟩, .int .i64 0, .int .i64 0, .string ⟨#[]⟩] 62) := ⟨_, rfl⟩
  have kA : wA.heap[w.heap.size]? = some (.cells #[.string ⟨#[]⟩, .int .i64 0, .string ⟨#[]⟩, .int .i64 0, .int .i64 0, .string ⟨#[]⟩] 62 (0, 0)) := by rw [hA]; exact heap_alloc_new w _
  have hbA : Below w.heap.size w wA := by rw [hA]; exact (Below.refl _ _).alloc (Nat.le_refl _) _
  obtain ⟨p, c, hblk, hrw⟩ := hS.form
  have HF := Lib.hid (found_any M b S t wA (hS.later hbA))
  have HP := Lib.hid hrw.ptr.2.2
  have HR := Lib.hid hrw
  have HkA := Lib.hid kA
  have HbA := Lib.hid hbA
  have HA := Lib.hid hA
  have Hblk := Lib.hid hblk
  have HS := Lib.hid hS
  have hlen := hS.len
  clear kA hbA hA hrw hblk hS
  have Htt := Lib.hid (show B t = B t from rfl)
  generalize htt : B t = tt at *
  clear htt Htt
  go_enter Tryz.func40, Tryz.ntmps40
  go_wp2_with fail
  rw [← HA.out]
  refine HF.out.mono ?_
  rintro e w1 ⟨⟨k, is, rfl, hFo⟩, hb1⟩
  have HFF := Lib.hid (found_find HS.out.asc hFo)
  have Hb1 := Lib.hid (then_bel HbA.out hb1)
  have hk1 := (hb1.block _ (lt_of_block HkA.out)).trans HkA.out
  clear hFo
  have a0 : w1.cell? ⟨w.heap.size, 0, none⟩ = some (.string ⟨#[]⟩) := cell_in hk1
  have a1 : w1.cell? ⟨w.heap.size, 1, none⟩ = some (.int .i64 0) := cell_in hk1
  have a2 : w1.cell? ⟨w.heap.size, 2, none⟩ = some (.string ⟨#[]⟩) := cell_in hk1
  have a3 : w1.cell? ⟨w.heap.size, 3, none⟩ = some (.int .i64 0) := cell_in hk1
  have a4 : w1.cell? ⟨w.heap.size, 4, none⟩ = some (.int .i64 0) := cell_in hk1
  have a5 : w1.cell? ⟨w.heap.size, 5, none⟩ = some (.string ⟨#[]⟩) := cell_in hk1
  have f0 : w1.frozen? ⟨w.heap.size, 0, none⟩ = false := free_in hk1
  have f1 : w1.frozen? ⟨w.heap.size, 1, none⟩ = false := free_in hk1
  have f2 : w1.frozen? ⟨w.heap.size, 2, none⟩ = false := free_in hk1
  have f3 : w1.frozen? ⟨w.heap.size, 3, none⟩ = false := free_in hk1
  have f4 : w1.frozen? ⟨w.heap.size, 4, none⟩ = false := free_in hk1
  have f5 : w1.frozen? ⟨w.heap.size, 5, none⟩ = false := free_in hk1
  have hgw1 : w.heap.size < w1.heap.size := lt_of_block hk1
  cases is with
  | false =>
    have Hf := Lib.hid (HFF.out.2 rfl)
    have Hk2 := Lib.hid (stored hk1 (.string ⟨#[]⟩) (.int .i64 0) (.string ⟨#[]⟩) (.int .i64 0) (.int .i64 0) (.string ⟨#[]⟩))
    clear hk1 hb1
    go_wp2_with fail
    refine bodyPost_ret (results_cell_row2 rfl _ _ (w.heap.size) 62 _ _ _ rfl Hk2.out Tryz.underlying62 rfl (by kernel_rfl)) rfl ?_
    refine ⟨?_, stored_bel Hb1.out (by omega) _ _ _ _ _ _⟩
    rw [Hf.out]
    rfl
  | true =>
    obtain ⟨x, hx, hf⟩ := HFF.out.1 rfl
    have Hf := Lib.hid hf
    clear hf
    have hkl : k < S.length := lt_get hx
    obtain ⟨bp, op, rfl, hbp⟩ := HP.out (by omega)
    obtain ⟨k0, k1, k2, k3, k4, k5⟩ := ky_cells (HR.out.later Hb1.out) hx
    have c0 : w1.cell? ⟨b, 0, none⟩ = some (.slice (some ⟨bp, op, none⟩) S.length c) := cell_in ((Hb1.out.block b (lt_of_block Hblk.out)).trans Hblk.out)
    have hbw : b < w1.heap.size := by have := lt_of_block Hblk.out; have := Hb1.out.size; omega
    have hbr : bp < w1.heap.size := by have := Hb1.out.size; omega
    have hki : (k : Int) < (S.length : Int) := by omega
    have hk5 : (0 : Int) ≤ (k : Int) := by omega
    have Hk2 := Lib.hid (stored hk1 (.string (B x.name)) (.int .i64 x.kind) (.string (B x.dflt)) (.int .i64 x.least) (.int .i64 x.most) (.string (B x.letter)))
    have HV : Hid (foundV (some x) = .tuple #[.agg #[.string (B x.name), .int .i64 x.kind, .string (B x.dflt), .int .i64 x.least, .int .i64 x.most, .string (B x.letter)], .bool true]) := Lib.hid rfl
    clear hk1 hb1 hx hkl
    generalize B x.name = nm at *
    generalize B x.dflt = df at *
    generalize B x.letter = lt at *
    generalize x.kind = kk at *
    generalize x.least = le at *
    generalize x.most = mo at *
    go_wp2_with fail
    refine bodyPost_ret (results_cell_row2 rfl _ _ (w.heap.size) 62 _ _ _ rfl Hk2.out Tryz.underlying62 rfl (by kernel_rfl)) rfl ?_
    refine ⟨?_, stored_bel Hb1.out (by omega) _ _ _ _ _ _⟩
    rw [Hf.out, HV.out]
    rfl
end Go.Proofs.YtpfhhaonfbfheaaGreatDoor.ky
