/- Laws for any program: a call of a Go function, whatever it gives, as one step of a region that draws its order; slices.Clone of any list. No program in sight; no conditions beside those stated. -/
import Derived.Test.YtpfhhaonfbfheaaGreatDoorStp
import Derived.Test.YtpfhhaonfbfheaaGreatDoorRow
import Derived.Shelf.SlicesE.Clone
namespace Go.Proofs.YtpfhhaonfbfheaaGreatDoor
open Go.RowKit
section
variable {P : Program}
/-- A call, as a step. -/
theorem step_callE {ops : Array Oper} {o : Oper} {a : Act} {w : World} {K : Act → World → Prop} {Q : Exit → Act → World → Prop} {E : Prop} (hgd : o.guard = none) (f : FuncId) (xs : Array Operand) (ts : Array TypeId)
    (ho : o.op = .call { callee := .value (.func f), args := xs, argTypes := ts }) (eg : ∀ args w, (callFunc f args).run P w = .ok (.enter f args) w) (args : Array Value) (hargs' : xs.toList.map a.eval = args.toList) (R : Value → World → Prop)
    (hc : Calls P f args w fun e w' => ∃ v, e = .returned v ∧ R v w') (hK : ∀ v w', R v w' → K (a.put o.dst v) w') :
    if Region.wanted o (yielded ops a.tmps) = true then Oper.wp P o a w K Q else E := by
  have hargs : xs.map a.eval = args := by
    apply Array.ext'
    rw [Array.toList_map]
    exact hargs'
  have hw : Region.wanted o (yielded ops a.tmps) = true := by simp [Region.wanted, hgd]
  rw [if_pos hw]
  have hrun : (execOp a.eval o).run P w = .ok (.enter f args) w := by
    simp only [execOp, ho]
    have h1 : a.eval (.func f) = .func (.func f) #[] #[] := rfl
    simp only [resolve, h1, hargs]
    have := eg args w
    simpa [invoke, go_sem] using this
  unfold Oper.wp
  rw [hrun, Oper.upon_enter]
  refine hc.mono fun e w' h => ?_
  obtain ⟨v, rfl, h⟩ := h
  exact hK v w' h
open Go.Shelf ls in
set_option maxRecDepth 100000 in
theorem clone_list {ρ : Ren} (L : SlLaysE0.n41 P ρ) {α : Type} {enc : α → List Value} {k : Nat} (hk : ∀ x, (enc x).length = k) (h1 : ∀ x, ∀ v ∈ enc x, v.oneCell' = true) (hk0 : 0 < k) {z : Value} {bytes : Nat}
    (hi : (P.info? (ρ.t 23)).map (fun i => (i.zero, i.size, i.bytes)) = some (some z, k, bytes)) (hzs : z.cells.size = k) (hby : bytes ≤ 1024) (z23 : ∀ w, (Go.sizeOf (ρ.t 23)).run P w = .ok k w)
    (p : Option Addr) (m c : Nat) (l : List α) (hm : m ≤ 4294967295) (w : World) (h : rw.Rw enc k w (.slice p m c) l) :
    Calls P (ρ.f 41) #[.slice p m c] w fun e w' => ∃ v, e = .returned v ∧ w'.ownsRow w.heap.size (ρ.t 23) k v m (rw.flat enc l) ∧ Below w.heap.size w w' := by
  obtain ⟨hlen, hmc, hptr⟩ := h.ptr
  obtain ⟨i0, hi0, hi1⟩ := Option.map_eq_some_iff.1 hi
  simp only [Prod.mk.injEq] at hi1
  obtain ⟨hz, hs, hb⟩ := hi1
  rcases Nat.eq_zero_or_pos m with h0 | h0
  · subst h0
    obtain rfl : l = [] := List.length_eq_zero_iff.1 hlen
    cases p with
    | none =>
      refine (AnyE.slices_Clone_nil L 0 c w).mono ?_
      rintro e w' ⟨rfl, rfl⟩
      exact ⟨_, rfl, ⟨by simp [rw.flat], .inl ⟨rfl, rfl⟩⟩, Below.refl _ _⟩
    | some a =>
      have mixed := L.mixed; have t4 := L.t4; have a4 := L.a4; have z4 := L.z4; have v4 := L.v4; have t22 := L.t22; have a22 := L.a22; have z22 := L.z22; have v22 := L.v22
      have q22 : ∀ (w : World) (a : Option Addr) (n c n' c' : Nat), (binOp .eql (ρ.t 22) (.slice a n c) (.slice none n' c')).run P w = .ok (.bool a.isNone) w := fun w a n c n' c' => Lib.run_eql_slice_nil w _ _ a n c n' c' L.t22
      have u22 : ∀ w, Sem.run P (underlying (ρ.t 22)) w = .ok (TypeDesc.slice (ρ.t 23)) w := run_underlying t22
      have qs : (some a).isNone = false := rfl
      obtain ⟨_, _, FG⟩ := L.f41
      go_enter FG, SlBodyN.n41_ntmps ρ
      go_wp2_with fail
      go_ret
      exact ⟨_, rfl, World.ownsRow_made w #[] 0 (Nat.le_refl _) (Nat.zero_le _) (by simp), (Below.refl _ _).alloc (Nat.le_refl _) _⟩
  · obtain ⟨b, o, rfl, hbl⟩ := hptr h0
    have hmul : m * bytes ≤ 140737488355328 := Nat.le_trans (Nat.mul_le_mul hm hby) (by decide)
    refine (AnyE.slices_Clone L i0 _ k bytes hi0 hz hs hb hzs hk0 z23 b o m c (rw.flat enc l) w (by rw [rw.flat_len hk, hlen]) (by unfold maxLen; omega) hmul (fun j u hu => ?_) (fun u hu => rw.flat_one h1 l u hu)).mono ?_
    · have hj : j < l.length * k := by have := (List.getElem?_eq_some_iff.1 hu).1; rwa [rw.flat_len hk] at this
      have hq : j / k < l.length := (Nat.div_lt_iff_lt_mul hk0).2 hj
      have hr : j % k < (enc l[j / k]).length := by rw [hk]; exact Nat.mod_lt _ hk0
      have h2 := rw.flat_at hk l (j / k) _ (j % k) _ (List.getElem?_eq_getElem hq) (List.getElem?_eq_getElem hr)
      have he : j / k * k + j % k = j := by rw [Nat.mul_comm]; exact Nat.div_add_mod j k
      rw [he] at h2
      have h3 := h.cell (List.getElem?_eq_getElem hq) (List.getElem?_eq_getElem hr)
      rw [he] at h3
      rw [h3, ← h2]
      exact hu
    · rintro e w' ⟨v, rfl, hv, _, hb'⟩
      exact ⟨v, rfl, hv, hb'⟩
end
end Go.Proofs.YtpfhhaonfbfheaaGreatDoor
