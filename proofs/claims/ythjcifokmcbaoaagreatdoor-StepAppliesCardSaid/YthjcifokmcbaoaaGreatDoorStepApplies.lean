/- StepApplies returns true in every world that holds the listed variables. -/
import Derived.Test.YthjcifokmcbaoaaGreatDoorCards
import Derived.Test.YthjcifokmcbaoaaGreatDoorTie
import Derived.Test.YthjcifokmcbaoaaGreatDoorMgB
import Derived.Test.YthjcifokmcbaoaaGreatDoorMhH
import Derived.Test.YthjcifokmcbaoaaGreatDoorMhI
import Derived.WalkKit
import Derived.ProofKit
import Derived.OpenShut
import Derived.Deep.DeepHandedRow
import Derived.Carry
import Derived.Stop.Joined
namespace Go.Proofs.YthjcifokmcbaoaaGreatDoor.stepApplies
open Go.ChangeShapes Go.WideShapes Go.ChangeAt Go.RowKit gl st
open Go.ChangeMaps (open_string shut_string)
theorem own : ownKnob Tryz.prog.godebug = none := by kernel_rfl
theorem laidOut : laidOutB Tryz.prog = true := by kernel_rfl

set_option maxRecDepth 100000 in
theorem contract (H : Type) (enc : TypeId × Value → H) (W : World) (base : Nat) (args : Array Value) (ds gs : List (DataW H)) (before : List MemPlace)
    (hval : ∀ (j : Nat) t v, Tryz.f5.params[j]? = some t → args[j]? = some v → Value.okWide Tryz.prog W .any base t v)
    (hW : DataW.Whole enc Tryz.prog Tryz.f5.params.toList Rows.stepAppliesSpec.vars false W args.toList ds gs before) (hL : laidMetH Tryz.prog Rows.stepAppliesRow.laid W) (hS : W.ShapedOpen Tryz.prog) :
    Calls Tryz.prog 5 args W fun e W' => ∃ v, e = .returned v ∧ Rows.stepAppliesSpec.post enc Tryz.prog Tryz.f5 false true false false W args v W' := by
  have hW' := hW
  obtain ⟨p, q, hA0, hV, rfl, hfz, hnd⟩ := hW
  have hA : DataW.TrodAll enc Tryz.prog W 0 (fun _ => true) true Tryz.f5.params.toList args.toList ds p := hA0
  rw [Tryz.params5] at hA hval
  obtain ⟨v0, vs0, d0, ds0, p0, q0, hargs, rfl, rfl, h0, r0⟩ := trodAll_cons hA
  obtain ⟨v1, vs1, d1, ds1, p1, q1, rfl, rfl, rfl, h1, r1⟩ := trodAll_cons r0
  obtain ⟨v2, vs2, d2, ds2, p2, q2, rfl, rfl, rfl, h2, r2⟩ := trodAll_cons r1
  obtain ⟨rfl, rfl, rfl⟩ := trodAll_nil r2
  obtain rfl : args = #[v0, v1, v2] := by cases args; simp_all
  obtain ⟨rfl, rfl⟩ := trodVars_none hV
  have hlt0 : ∀ x ∈ p0, x.block < W.heap.size := fun x hx => hW'.lt x (by simp [hx])
  have hk0 := h0
  obtain ⟨a0, len0, cap0, hs0⟩ := okWide_slice Tryz.underlying44 (hval 0 44 v0 rfl rfl)
  obtain ⟨pp0, cc0, l0, hv0, hl0, hf0⟩ := pairs_of h0 (by rw [hs0]; rfl)
  clear hs0 h0
  subst hv0
  have hlt1 : ∀ x ∈ p1, x.block < W.heap.size := fun x hx => hW'.lt x (by simp [hx])
  have hk1 := h1
  obtain ⟨cs1, hs1, hz1⟩ := okWide_struct Tryz.underlying42 (hval 1 42 v1 rfl rfl)
  obtain ⟨x1, sl1, hv1, hb1, hf1⟩ := step_of h1 hs1 hz1
  clear hs1 hz1 h1
  subst hv1
  have hlt2 : ∀ x ∈ p2, x.block < W.heap.size := fun x hx => hW'.lt x (by simp [hx])
  have hk2 := h2
  obtain ⟨cs2, hs2, hz2⟩ := okWide_struct Tryz.underlying42 (hval 2 42 v2 rfl rfl)
  obtain ⟨x2, sl2, hv2, hb2, hf2⟩ := step_of h2 hs2 hz2
  clear hs2 hz2 h2
  subst hv2
  clear hA0
  simp only [List.append_nil] at hW'
  have hG := slo_of hL hS
  refine (stepApplies_any pp0 cc0 l0 (by unfold maxLen at hl0; omega) x1 x2 W hf0.1 hG).mono fun e W' ⟨he, bel⟩ => ?_
  subst he
  exact ⟨_, rfl, _, _, _, [], _, [], hW', trodAll_mk1 (shut_bool Tryz.underlying4 _), trodAll_cons_mk (Below.trod laidOut (by kernel_rfl) (of_decide_eq_true (by kernel_rfl)) hk0 bel hlt0) (trodAll_cons_mk (Below.trod laidOut (by kernel_rfl) (of_decide_eq_true (by kernel_rfl)) hk1 bel hlt1) (trodAll_cons_mk (Below.trod laidOut (by kernel_rfl) (of_decide_eq_true (by kernel_rfl)) hk2 bel hlt2) trodAll_mk0)), rfl, bel.frame _, fun h => by cases h⟩

set_option maxRecDepth 100000 in
theorem laid_met' (os : Os) : laidMet Tryz.prog Rows.stepAppliesRow.laid ((laidWorldS os).forCall (fun _ _ => 0) ⟨#[], #[.slice none 0 0, .agg #[.int .i64 0, .string .empty, .string .empty, .string .empty, .string .empty], .agg #[.int .i64 0, .string .empty, .string .empty, .string .empty, .string .empty]], []⟩).memory :=
  laidMet_of_run' 8 (by kernel_rfl) (by kernel_rfl)
theorem reads (os : Os) {H : Type} (enc : TypeId × Value → H) : ∃ places, DataW.whole enc Tryz.prog ((laidWorldS os).forCall (fun _ _ => 0) ⟨#[], #[.slice none 0 0, .agg #[.int .i64 0, .string .empty, .string .empty, .string .empty, .string .empty], .agg #[.int .i64 0, .string .empty, .string .empty, .string .empty, .string .empty]], []⟩).memory Tryz.f5.params.toList Rows.stepAppliesSpec.vars false (#[.slice none 0 0, .agg #[.int .i64 0, .string .empty, .string .empty, .string .empty, .string .empty], .agg #[.int .i64 0, .string .empty, .string .empty, .string .empty, .string .empty]] : Array Value).toList 8 = some ([.nil, .agg [.lit (.int .i64 0), .lit (.string []), .lit (.string []), .lit (.string []), .lit (.string [])], .agg [.lit (.int .i64 0), .lit (.string []), .lit (.string []), .lit (.string []), .lit (.string [])]], [], places) :=
  ⟨[], by kernel_rfl⟩

set_option maxRecDepth 100000 in
theorem lifted (os : Os) (started : os.Started) (H : Type) (enc : TypeId × Value → H) (F : Stop.Interp) :
    ReturnsInHanded {} Tryz.checked os 5 .any ((OpenSpec.ofChange Rows.stepAppliesSpec).preRow enc Tryz.prog Tryz.f5 Rows.stepAppliesRow.domain false Rows.stepAppliesRow.laid) (((OpenSpec.ofChange Rows.stepAppliesSpec).at F).post enc Tryz.prog Tryz.f5 false true false false) := by
  obtain ⟨places, hx⟩ := reads os enc
  refine returnsInHanded_of_row (C := Tryz.checked) (s := OpenSpec.ofChange Rows.stepAppliesSpec) own started (by kernel_rfl) Tryz.func5
    (witness_row_at (enc := enc) (C := Tryz.checked) false (laidWorldS os) #[.slice none 0 0, .agg #[.int .i64 0, .string .empty, .string .empty, .string .empty, .string .empty], .agg #[.int .i64 0, .string .empty, .string .empty, .string .empty, .string .empty]] rfl (by kernel_rfl) (by kernel_rfl) (by kernel_rfl)
      (OpenSpec.preRow_of_cond 8 hx (by kernel_rfl) (fun k hk => by cases hk) (by kernel_rfl) (laid_met' os))) ?_
  intro W base args ds gs before hval hW _ _ _ hL hS _
  exact contract H enc W base args ds gs before hval hW hL hS

theorem both {a b : Bool} (h : a = true) (k : b = true) : (a && b) = true := by rw [h, k]; rfl
set_option maxHeartbeats 40000000 in
theorem joined : joinedFacts Tryz.prog 5 Tryz.f5 (OpenSpec.ofChange Rows.stepAppliesSpec).bare Rows.stepAppliesRow = true := by
  unfold joinedFacts
  repeat' (with_reducible refine both ?_ ?_)
  all_goals as_aux_lemma => kernel_rfl
theorem instanced : Tryz.f5.isInstance Tryz.prog Rows.stepAppliesRow.origin Rows.stepAppliesRow.targs := of_decide_eq_true (by kernel_rfl)
theorem wrapped : Tryz.f5.isWrapper Tryz.prog Rows.stepAppliesRow.wrapper Rows.stepAppliesRow.mainSum := by unfold Func.isWrapper; first | (rw [if_pos (by decide +kernel)]; kernel_rfl) | (rw [if_neg (by decide +kernel)]; exact ⟨rfl, rfl⟩)
theorem naming : Tryz.prog.funcNamed Rows.stepAppliesRow.func = some 5 := by kernel_rfl
theorem said : Rows.StepAppliesSaid :=
  OpenClaim.holds_of_cond 5 Tryz.f5 rfl rfl rfl rfl rfl rfl rfl ⟨rfl, rfl, rfl, rfl, rfl⟩ rfl rfl rfl rfl rfl naming Tryz.func5 joined instanced wrapped
    (fun os started H enc _ F => by rw [OpenClaim.pre_eq_preRow]; exact lifted os started H enc F)

theorem plain (f : FuncId) (fn : Func) (hf : Tryz.pinned.checked.prog.funcNamed "tinderbox/tinderboxlaw16.StepApplies" = some f) (hfn : Tryz.pinned.checked.prog.funcs[f]? = some fn) :
    true = Tryz.pinned.checked.prog.looks [] ∧ ∀ (j : Nat) t, fn.params[j]? = some t → Tryz.pinned.checked.prog.wantsStandIn t = false := by
  obtain rfl : f = 5 := Option.some.inj ((show Tryz.prog.funcNamed "tinderbox/tinderboxlaw16.StepApplies" = some 5 by kernel_rfl).symm.trans hf) |>.symm
  obtain rfl : fn = Tryz.f5 := (Option.some.inj (Tryz.func5.symm.trans hfn)).symm
  refine ⟨by kernel_rfl, fun j t ht => ?_⟩
  rw [Tryz.params5] at ht
  have h : t = 44 ∨ t = 42 := by have := Array.mem_of_getElem? ht; simp at this; omega
  rcases h with rfl | rfl
  · exact (show Tryz.prog.wantsStandIn 44 = false by kernel_rfl)
  · exact (show Tryz.prog.wantsStandIn 42 = false by kernel_rfl)

/-- The card. -/
theorem proved : Rows.StepAppliesCardSaid :=
  Claim7.holds_tied_plain_at .later [] _ _ _ _ said (fun _ h => by cases h) (by kernel_rfl) (fun _ h => by cases h) stepApplies_row_tie rfl ⟨rfl, rfl⟩ (by kernel_rfl) rfl plain (by kernel_rfl)
#print axioms proved
end Go.Proofs.YthjcifokmcbaoaaGreatDoor.stepApplies
