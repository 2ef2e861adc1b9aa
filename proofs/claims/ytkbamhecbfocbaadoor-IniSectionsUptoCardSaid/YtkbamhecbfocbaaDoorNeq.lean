/- Two lines held against each other. No conditions. -/
import Derived.Test.YtkbamhecbfocbaaDoorChecked
import Derived.WalkKit
import Derived.Laws.StructEq
namespace Go.Proofs.YtkbamhecbfocbaaDoor.ini
open Go.RowKit

theorem lnFields : (Tryd.prog.fieldsOf 35).toList.map (fun f => (decide (f.name ≠ "_"), f.type, f.offset)) = [(true, 9, 0), (true, 9, 1), (true, 3, 2)] := by kernel_rfl
theorem three_fields {l : List Field} {t0 t1 t2 : TypeId} (h : l.map (fun f => (decide (f.name ≠ "_"), f.type, f.offset)) = [(true, t0, 0), (true, t1, 1), (true, t2, 2)]) :
    ∃ f0 f1 f2 : Field, l = [f0, f1, f2] ∧ f0.name ≠ "_" ∧ f0.type = t0 ∧ f0.offset = 0 ∧ f1.name ≠ "_" ∧ f1.type = t1 ∧ f1.offset = 1 ∧ f2.name ≠ "_" ∧ f2.type = t2 ∧ f2.offset = 2 := by
  obtain ⟨f0, r0, rfl, h0, h⟩ := List.map_eq_cons_iff.1 h
  obtain ⟨f1, r1, rfl, h1, h⟩ := List.map_eq_cons_iff.1 h
  obtain ⟨f2, r2, rfl, h2, h⟩ := List.map_eq_cons_iff.1 h
  obtain rfl := List.map_eq_nil_iff.1 h
  simp only [Prod.mk.injEq, decide_eq_true_eq] at h0 h1 h2
  exact ⟨f0, f1, f2, rfl, h0.1, h0.2.1, h0.2.2, h1.1, h1.2.1, h1.2.2, h2.1, h2.2.1, h2.2.2⟩
set_option maxRecDepth 100000 in
theorem neq_ln (a b a2 b2 : ByteArray) (n n2 : Int) (w : World) :
    (binOp .neq 35 (.agg #[.string a, .string b, .int .i64 n]) (.agg #[.string a2, .string b2, .int .i64 n2])).run Tryd.prog w = .ok (.bool (!((a.toList == a2.toList) && ((b.toList == b2.toList) && (n == n2))))) w := by
  have hs : Tryd.prog.underlying 9 = some .string := Tryd.underlying9
  have hi : Tryd.prog.underlying 3 = some (.int .i64) := Tryd.underlying3
  have hc : Tryd.prog.cellsOf 9 = 1 := by kernel_rfl
  have hc2 : Tryd.prog.cellsOf 3 = 1 := by kernel_rfl
  obtain ⟨f0, f1, f2, hf, n0, t0, o0, n1, t1, o1, n2', t2, o2⟩ := three_fields lnFields
  rw [run_neq_struct, run_equalIn_struct w 9999 35 _ _ Tryd.underlying35 (by kernel_rfl), hf]
  simp only [Op.eqFields, n0, n1, n2', t0, t1, t2, o0, o1, o2, ne_eq, not_false_eq_true, if_true]
  cases h1 : (a.toList == a2.toList) <;> cases h2 : (b.toList == b2.toList) <;> cases h3 : (n == n2) <;> simp [go_sem, part, hs, hi, h1, h2, h3]
  all_goals trace_state
set_option maxRecDepth 100000 in
theorem eql_ln (a b a2 b2 : ByteArray) (n n2 : Int) (w : World) :
    (binOp .eql 35 (.agg #[.string a, .string b, .int .i64 n]) (.agg #[.string a2, .string b2, .int .i64 n2])).run Tryd.prog w = .ok (.bool ((a.toList == a2.toList) && ((b.toList == b2.toList) && (n == n2)))) w := by
  have hs : Tryd.prog.underlying 9 = some .string := Tryd.underlying9
  have hi : Tryd.prog.underlying 3 = some (.int .i64) := Tryd.underlying3
  have hc : Tryd.prog.cellsOf 9 = 1 := by kernel_rfl
  have hc2 : Tryd.prog.cellsOf 3 = 1 := by kernel_rfl
  obtain ⟨f0, f1, f2, hf, n0, t0, o0, n1, t1, o1, n2', t2, o2⟩ := three_fields lnFields
  rw [run_eql_struct, run_equalIn_struct w 9999 35 _ _ Tryd.underlying35 (by kernel_rfl), hf]
  simp only [Op.eqFields, n0, n1, n2', t0, t1, t2, o0, o1, o2, ne_eq, not_false_eq_true, if_true]
  cases h1 : (a.toList == a2.toList) <;> cases h2 : (b.toList == b2.toList) <;> cases h3 : (n == n2) <;> simp [go_sem, part, hs, hi, h1, h2, h3]
  all_goals trace_state
end Go.Proofs.YtkbamhecbfocbaaDoor.ini
