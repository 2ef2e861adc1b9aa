/- What the row's list gives (errors.errorType), a world for the witness, and a script among the arguments. No conditions. -/
import Derived.Test.YtmijkaejdgmplaaDoorCards
import Derived.Test.YtmijkaejdgmplaaDoorTie
import Derived.Test.YtmijkaejdgmplaaDoorCoV
import Derived.Test.YtmijkaejdgmplaaDoorOpen
import Derived.ProofKit
import Derived.OpenShut
import Derived.LaidLaws
import Derived.LaidHandle
import Derived.Stop.Joined
import Derived.ChangeVars
namespace Go.Proofs.YtmijkaejdgmplaaDoor.co
open Go.ChangeShapes Go.WideShapes Go.ChangeAt Go.RowKit

def laidL : List (String × DataW Unit) := [("errors.errorType", Rows.laid_errors_errorType)]
theorem gErr : Tryd.prog.globalNamed "errors.errorType" = some 2 := by kernel_rfl
theorem rtT : (Tryd.prog.cutTypes.find? (·.1 == "internal/reflectlite.rtype")).map (·.2) = some 111 := by kernel_rfl
theorem nTypes : ∃ n, Tryd.prog.types.size = n ∧ ((List.range n).filter fun t => Tryd.prog.rowNamed t [101, 114, 114, 111, 114]) = [64] := ⟨_, rfl, by kernel_rfl⟩
theorem reg_of {W : World} (h : laidMetH Tryd.prog laidL W) : Reg W := by
  have h' : laidMet Tryd.prog [] W ∧ handlesMet Tryd.prog laidL W := h
  obtain ⟨name, u, ty, e1, e2, e3, e4, e5⟩ := h'.2 _ (List.mem_singleton.2 rfl)
  have en : name = [101, 114, 114, 111, 114] := (Option.some.inj e1).symm
  subst en
  obtain rfl := Option.some.inj (rtT.symm.trans e2)
  obtain ⟨n, hn, hone⟩ := nTypes
  have hm : ty ∈ (List.range n).filter fun t => Tryd.prog.rowNamed t [101, 114, 114, 111, 114] := List.mem_filter.2 ⟨List.mem_range.2 (by rw [← hn]; exact e3), e4⟩
  rw [hone] at hm
  obtain rfl := List.mem_singleton.1 hm
  have hh : typeHandle Tryd.prog 64 = .pointer (some ⟨6, 64, none⟩) := by kernel_rfl
  rw [hh] at e5
  have := World.var?_cell gErr e5 0
  show W.cell? _ = _
  simpa using this

noncomputable def laidWorld (os : Os) : World :=
  let w0 := World.holding Tryd.prog os ⟨#[], #[], []⟩
  { w0 with heap := w0.heap.modify 2 fun
      | .cells _ t frozen => .cells #[.iface 111 (.agg #[.pointer (some ⟨6, 64, none⟩)])] t frozen
      | o => o }

instance : Inhabited OpD := ⟨⟨0, 0, 0, .empty⟩⟩
theorem wf_bd {n : Int} (h : (Lit.int .i64 n).wf = true) : -9223372036854775808 ≤ n ∧ n ≤ 9223372036854775807 := by
  have := h
  simp [Lit.wf, IntKind.min, IntKind.max, IntKind.signed, IntKind.bits] at this
  exact this
theorem script_of {H : Type} {enc : TypeId × Value → H} {W : World} {v : Value} {d : DataW H} {ps : List MemPlace} (h : DataW.Trod enc Tryd.prog W 0 (fun _ => true) true 22 v d ps) (hv : v.cells.toList = [v]) :
    ∃ p cap l, v = .slice p l.length cap ∧ l.length ≤ maxLen ∧ Script W p l := by
  rcases open_rows Tryd.underlying22 Tryd.underlying33 (by kernel_rfl) (by kernel_rfl) h hv with h | ⟨a, len, cap, hs, hl, hm, hat⟩
  · exact ⟨none, 0, [], h, Nat.zero_le _, fun i o hi => by simp at hi⟩
  · have hall : ∀ i, i < len → ∃ o : OpD, o.ok ∧ ∃ b off, a = ⟨b, off, none⟩ ∧ OpAt W b (off + i * 4) o := by
      intro i hi
      obtain ⟨u0, y0, n0, c0, t0⟩ := hat i hi 0 _ rfl
      obtain ⟨u1, y1, n1, c1, t1⟩ := hat i hi 1 _ rfl
      obtain ⟨u2, y2, n2, c2, t2⟩ := hat i hi 2 _ rfl
      obtain ⟨u3, y3, n3, c3, t3⟩ := hat i hi 3 _ rfl
      obtain ⟨z0, e0, _, w0⟩ := DataW.trod_int Tryd.underlying3 t0
      obtain ⟨z1, e1, _, w1⟩ := DataW.trod_int Tryd.underlying3 t1
      obtain ⟨z2, e2, _, w2⟩ := DataW.trod_int Tryd.underlying3 t2
      obtain ⟨s, e3, _, w3⟩ := DataW.trod_string Tryd.underlying9 t3
      simp only [List.cons.injEq, and_true] at e0 e1 e2 e3
      subst e0 e1 e2 e3
      obtain ⟨v0, y0', n0', z, _⟩ := hat 0 (by omega) 0 _ rfl
      have hsp : a.spot = none := by
        have := spot_none z
        simpa [Addr.add] using this
      obtain ⟨b, off, sp⟩ := a
      simp only at hsp
      subst hsp
      have b1 := wf_bd w1
      have b2 := wf_bd w2
      unfold maxLen at w3
      rw [add_none] at c0 c1 c2 c3
      exact ⟨⟨z0, z1, z2, s⟩, ⟨b1.1, b1.2, by simp only; omega, by simp only; omega⟩, b, off, rfl, World.block_lt_of_cell? _ _ c0, c0, c1, c2, c3⟩
    obtain ⟨f, hf⟩ := Deep.choose_lt hall
    refine ⟨some a, cap, (List.range len).map f, by simpa using hs, by simp; omega, fun i o hi => ?_⟩
    simp only [List.getElem?_map, Option.map_eq_some_iff] at hi
    obtain ⟨j, hj, rfl⟩ := hi
    obtain ⟨hj1, rfl⟩ := List.getElem?_eq_some_iff.1 hj
    simp only [List.getElem_range]
    obtain ⟨h1, b, off, rfl, h2⟩ := hf i (by simpa using hj1)
    exact ⟨h1, b, off, rfl, h2⟩
end Go.Proofs.YtmijkaejdgmplaaDoor.co
