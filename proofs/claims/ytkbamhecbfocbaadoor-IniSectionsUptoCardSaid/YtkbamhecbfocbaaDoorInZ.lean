/- ini.Parse's deferred function, called while it returns or panics. Conditions: the two named results' cells hold what they may. -/
import Derived.Test.YtkbamhecbfocbaaDoorInW
import Derived.Defers
import Derived.Recover
namespace Go.Proofs.YtkbamhecbfocbaaDoor.ini
open Go.ChangeShapes Go.WideShapes Go.ChangeAt Go.RowKit gl

theorem parseC_idle (p q : Addr) (w : World) :
    CallsD Tryd.prog 47 #[.pointer (some p), .pointer (some q)] .returning w fun e u' w' => e = .returned (.tuple #[]) ∧ u' = .returning ∧ w' = w := by
  have heq : ∀ w : World, (binOp BinOp.eql 20 .nilIface .nilIface).run Tryd.prog w = .ok (.bool true) w := fun _ => by kernel_rfl
  refine callsD_of_wpS Tryd.func47 rfl fun c₀ cs hu => ?_
  apply wpS_seq
  apply wpS_region
  simp [wpOpsS, go_sem, recoverD, hu, Tryd.ntmps47, Exit.thenS]
  refine wpS_of_wp ?_
  go_wp2_with fail
  cases c₀
  simp_all [bodyPostS, results, Tryd.results47]

set_option maxHeartbeats 1000000 in
set_option maxRecDepth 100000 in
theorem parseC_pan (b : Nat) (x y : Value) (w : World) (hp : w.cell? ⟨b, 0, none⟩ = some x) (hpf : w.frozen? ⟨b, 0, none⟩ = false) (hq : w.cell? ⟨b + 1, 0, none⟩ = some y) (hqf : w.frozen? ⟨b + 1, 0, none⟩ = false) (hql : b + 1 < w.heap.size) :
    CallsD Tryd.prog 47 #[.pointer (some ⟨b, 0, none⟩), .pointer (some ⟨b + 1, 0, none⟩)] (.panicking [{ v := wrongV, recovered := false }]) w fun e u' w' => e = .returned (.tuple #[]) ∧ u' = .panicking [{ v := wrongV, recovered := true }] ∧ ∃ o : Obj, w' = ((w.alloc o).setCell ⟨b, 0, none⟩ (.slice none 0 0)).setCell ⟨b + 1, 0, none⟩ (.int .i64 60) := by
  have heq : ∀ w : World, (binOp BinOp.eql 20 wrongV .nilIface).run Tryd.prog w = .ok (.bool false) w := fun _ => by kernel_rfl
  refine callsD_of_wpS Tryd.func47 rfl fun c₀ cs hu => ?_
  apply wpS_seq
  apply wpS_region
  simp [wpOpsS, go_sem, recoverD, hu, Tryd.ntmps47, Exit.thenS, wrongV]
  refine wpS_of_wp ?_
  unfold wrongV at heq
  have kb : ∀ o : Obj, Below w.heap.size w (w.alloc o) := fun o => (Below.refl _ _).alloc (Nat.le_refl _) o
  have hp' : ∀ o : Obj, (w.alloc o).cell? ⟨b, 0, none⟩ = some x := fun o => ((kb o).cell (p := ⟨b, 0, none⟩) (by show b < _; omega)).trans hp
  have hpf' : ∀ o : Obj, (w.alloc o).frozen? ⟨b, 0, none⟩ = false := fun o => ((kb o).frozen (p := ⟨b, 0, none⟩) (by show b < _; omega)).trans hpf
  have hq' : ∀ o : Obj, (w.alloc o).cell? ⟨b + 1, 0, none⟩ = some y := fun o => ((kb o).cell (p := ⟨b + 1, 0, none⟩) hql).trans hq
  have hqf' : ∀ o : Obj, (w.alloc o).frozen? ⟨b + 1, 0, none⟩ = false := fun o => ((kb o).frozen (p := ⟨b + 1, 0, none⟩) hql).trans hqf
  clear kb
  have hta : ∀ w : World, (Instr.typeAssert (.iface 70 (.agg #[])) 20 70 true).run Tryd.prog w = .ok (.tuple #[.agg #[], .bool true]) w := fun _ => by kernel_rfl
  go_wp2_with fail
  cases c₀
  simp_all [bodyPostS, results, Tryd.results47]
  exact ⟨_, rfl⟩
end Go.Proofs.YtkbamhecbfocbaaDoor.ini
