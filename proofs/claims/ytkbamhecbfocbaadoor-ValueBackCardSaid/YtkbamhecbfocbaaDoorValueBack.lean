/- ValueBack returns true in every world that holds the listed variables. -/
import Derived.Test.YtkbamhecbfocbaaDoorCards
import Derived.Test.YtkbamhecbfocbaaDoorTie
import Derived.Test.YtkbamhecbfocbaaDoorVaX
import Derived.Test.YtkbamhecbfocbaaDoorVaY
import Derived.Test.YtkbamhecbfocbaaDoorVaU
import Derived.WalkKit
import Derived.ProofKit
import Derived.OpenShut
import Derived.Deep.DeepHandedRow
import Derived.Carry
import Derived.Stop.Joined
namespace Go.Proofs.YtkbamhecbfocbaaDoor.valueBack
open Go.ChangeShapes Go.WideShapes Go.ChangeAt Go.RowKit gl va
open Go.ChangeMaps (open_string shut_string)
theorem own : ownKnob Tryd.prog.godebug = none := by kernel_rfl
theorem laidOut : laidOutB Tryd.prog = true := by kernel_rfl

set_option maxRecDepth 100000 in
theorem contract (H : Type) (enc : TypeId × Value → H) (W : World) (base : Nat) (args : Array Value) (ds gs : List (DataW H)) (before : List MemPlace)
    (hval : ∀ (j : Nat) t v, Tryd.f10.params[j]? = some t → args[j]? = some v → Value.okWide Tryd.prog W .any base t v)
    (hW : DataW.Whole enc Tryd.prog Tryd.f10.params.toList Rows.valueBackSpec.vars false W args.toList ds gs before) (hL : laidMetH Tryd.prog Rows.valueBackRow.laid W) (hS : W.ShapedOpen Tryd.prog) :
    Calls Tryd.prog 10 args W fun e W' => ∃ v, e = .returned v ∧ Rows.valueBackSpec.post enc Tryd.prog Tryd.f10 false true false false W args v W' := by
  have hW' := hW
  obtain ⟨p, q, hA0, hV, rfl, hfz, hnd⟩ := hW
  have hA : DataW.TrodAll enc Tryd.prog W 0 (fun _ => true) true Tryd.f10.params.toList args.toList ds p := hA0
  rw [Tryd.params10] at hA hval
  obtain ⟨v0, vs0, d0, ds0, p0, q0, hargs, rfl, rfl, h0, r0⟩ := trodAll_cons hA
  obtain ⟨v1, vs1, d1, ds1, p1, q1, rfl, rfl, rfl, h1, r1⟩ := trodAll_cons r0
  obtain ⟨v2, vs2, d2, ds2, p2, q2, rfl, rfl, rfl, h2, r2⟩ := trodAll_cons r1
  obtain ⟨v3, vs3, d3, ds3, p3, q3, rfl, rfl, rfl, h3, r3⟩ := trodAll_cons r2
  obtain ⟨rfl, rfl, rfl⟩ := trodAll_nil r3
  obtain rfl : args = #[v0, v1, v2, v3] := by cases args; simp_all
  obtain ⟨rfl, rfl⟩ := trodVars_none hV
  obtain ⟨n0, rfl, rfl, rfl, hw0⟩ := open_int Tryd.underlying3 (hval 0 3 v0 rfl rfl) h0
  obtain ⟨s1, rfl, rfl, rfl, hm1⟩ := open_string Tryd.underlying9 (hval 1 9 v1 rfl rfl) h1
  have hlt2 : ∀ x ∈ p2, x.block < W.heap.size := fun x hx => hW'.lt x (by simp [hx])
  have hk2 := h2
  obtain ⟨cs2, hs2, hz2⟩ := okWide_struct Tryd.underlying45 (hval 2 45 v2 rfl rfl)
  obtain ⟨x2, sl2, hv2, hb2, hf2⟩ := val_of h2 hs2 hz2
  clear hs2 hz2 h2
  subst hv2
  have hlt3 : ∀ x ∈ p3, x.block < W.heap.size := fun x hx => hW'.lt x (by simp [hx])
  have hk3 := h3
  obtain ⟨cs3, hs3, hz3⟩ := okWide_struct Tryd.underlying45 (hval 3 45 v3 rfl rfl)
  obtain ⟨x3, sl3, hv3, hb3, hf3⟩ := val_of h3 hs3 hz3
  clear hs3 hz3 h3
  subst hv3
  clear hA0
  simp only [List.append_nil] at hW'
  have hG := vlo_of hL hS
  refine (valueBack_any n0 s1 hm1 x2 hb2 sl2 x3 hb3 sl3 W hf2 hf3 hG).mono fun e W' ⟨he, bel⟩ => ?_
  subst he
  exact ⟨_, rfl, _, _, _, [], _, [], hW', trodAll_mk1 (shut_bool Tryd.underlying4 _), trodAll_cons_mk (shut_int Tryd.underlying3 hw0) (trodAll_cons_mk (shut_string Tryd.underlying9 hm1) (trodAll_cons_mk (Below.trod laidOut (by kernel_rfl) (of_decide_eq_true (by kernel_rfl)) hk2 bel hlt2) (trodAll_cons_mk (Below.trod laidOut (by kernel_rfl) (of_decide_eq_true (by kernel_rfl)) hk3 bel hlt3) trodAll_mk0))), rfl, bel.frame _, fun h => by cases h⟩

set_option maxRecDepth 100000 in
theorem laid_met' (os : Os) : laidMet Tryd.prog Rows.valueBackRow.laid ((laidWorldV os).forCall (fun _ _ => 0) ⟨#[], #[.int .i64 0, .string .empty, .agg #[.int .i64 0, .int .i64 0, .string .empty, .slice none 0 0], .agg #[.int .i64 0, .int .i64 0, .string .empty, .slice none 0 0]], []⟩).memory :=
  laidMet_of_run' 8 (by kernel_rfl) (by kernel_rfl)
theorem reads (os : Os) {H : Type} (enc : TypeId × Value → H) : ∃ places, DataW.whole enc Tryd.prog ((laidWorldV os).forCall (fun _ _ => 0) ⟨#[], #[.int .i64 0, .string .empty, .agg #[.int .i64 0, .int .i64 0, .string .empty, .slice none 0 0], .agg #[.int .i64 0, .int .i64 0, .string .empty, .slice none 0 0]], []⟩).memory Tryd.f10.params.toList Rows.valueBackSpec.vars false (#[.int .i64 0, .string .empty, .agg #[.int .i64 0, .int .i64 0, .string .empty, .slice none 0 0], .agg #[.int .i64 0, .int .i64 0, .string .empty, .slice none 0 0]] : Array Value).toList 8 = some ([.lit (.int .i64 0), .lit (.string []), .agg [.lit (.int .i64 0), .lit (.int .i64 0), .lit (.string []), .nil], .agg [.lit (.int .i64 0), .lit (.int .i64 0), .lit (.string []), .nil]], [], places) :=
  ⟨[], by kernel_rfl⟩

set_option maxRecDepth 100000 in
theorem lifted (os : Os) (started : os.Started) (H : Type) (enc : TypeId × Value → H) (F : Stop.Interp) :
    ReturnsInHanded {} Tryd.checked os 10 .any ((OpenSpec.ofChange Rows.valueBackSpec).preRow enc Tryd.prog Tryd.f10 Rows.valueBackRow.domain false Rows.valueBackRow.laid) (((OpenSpec.ofChange Rows.valueBackSpec).at F).post enc Tryd.prog Tryd.f10 false true false false) := by
  obtain ⟨places, hx⟩ := reads os enc
  refine returnsInHanded_of_row (C := Tryd.checked) (s := OpenSpec.ofChange Rows.valueBackSpec) own started (by kernel_rfl) Tryd.func10
    (witness_row_at (enc := enc) (C := Tryd.checked) false (laidWorldV os) #[.int .i64 0, .string .empty, .agg #[.int .i64 0, .int .i64 0, .string .empty, .slice none 0 0], .agg #[.int .i64 0, .int .i64 0, .string .empty, .slice none 0 0]] rfl (by kernel_rfl) (by kernel_rfl) (by kernel_rfl)
      (OpenSpec.preRow_of_cond 8 hx (by kernel_rfl) (fun k hk => by cases hk) (by kernel_rfl) (laid_met' os))) ?_
  intro W base args ds gs before hval hW _ _ _ hL hS _
  exact contract H enc W base args ds gs before hval hW hL hS

theorem said : Rows.ValueBackSaid :=
  OpenClaim.holds_of_cond 10 Tryd.f10 rfl rfl rfl rfl rfl rfl rfl ⟨rfl, rfl, rfl, rfl, rfl⟩ rfl rfl rfl rfl rfl (by kernel_rfl) Tryd.func10 (by kernel_rfl)
    (of_decide_eq_true (by kernel_rfl)) (by unfold Func.isWrapper; first | (rw [if_pos (by decide +kernel)]; kernel_rfl) | (rw [if_neg (by decide +kernel)]; exact ⟨rfl, rfl⟩))
    (fun os started H enc _ F => by rw [OpenClaim.pre_eq_preRow]; exact lifted os started H enc F)

theorem plain (f : FuncId) (fn : Func) (hf : Tryd.pinned.checked.prog.funcNamed "tinderbox/tinderboxlaw04.ValueBack" = some f) (hfn : Tryd.pinned.checked.prog.funcs[f]? = some fn) :
    true = Tryd.pinned.checked.prog.looks [] ∧ ∀ (j : Nat) t, fn.params[j]? = some t → Tryd.pinned.checked.prog.wantsStandIn t = false := by
  obtain rfl : f = 10 := Option.some.inj ((show Tryd.prog.funcNamed "tinderbox/tinderboxlaw04.ValueBack" = some 10 by kernel_rfl).symm.trans hf) |>.symm
  obtain rfl : fn = Tryd.f10 := (Option.some.inj (Tryd.func10.symm.trans hfn)).symm
  refine ⟨by kernel_rfl, fun j t ht => ?_⟩
  rw [Tryd.params10] at ht
  have h : t = 3 ∨ t = 9 ∨ t = 45 := by have := Array.mem_of_getElem? ht; simp at this; omega
  rcases h with rfl | rfl | rfl
  · exact (show Tryd.prog.wantsStandIn 3 = false by kernel_rfl)
  · exact (show Tryd.prog.wantsStandIn 9 = false by kernel_rfl)
  · exact (show Tryd.prog.wantsStandIn 45 = false by kernel_rfl)

/-- The card. -/
theorem proved : Rows.ValueBackCardSaid :=
  Claim7.holds_tied_plain_at .later [] _ _ _ _ said (fun _ h => by cases h) (by kernel_rfl) (fun _ h => by cases h) valueBack_row_tie rfl ⟨rfl, rfl⟩ (by kernel_rfl) rfl plain (by kernel_rfl)
#print axioms proved
end Go.Proofs.YtkbamhecbfocbaaDoor.valueBack
