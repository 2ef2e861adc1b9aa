/- Package key: a set that takes a definition in. Conditions: texts of at most 2147483647 bytes; the listed variables hold what the program's text lays. -/
import Derived.Test.YtpfhhaonfbfheaaGreatDoorKyB
import Derived.Test.YtpfhhaonfbfheaaGreatDoorVaQ
import Derived.StillTailTactics
import Derived.Deep.DeepCutAuto
namespace Go.Proofs.YtpfhhaonfbfheaaGreatDoor.ky
open Go.ChangeShapes Go.WideShapes Go.ChangeAt Go.RowKit gl va ls

theorem New_any (w : World) : Calls Tryz.prog 46 #[] w fun e w' => e = .returned (.pointer (some ⟨w.heap.size, 0, none⟩)) ∧ SetK w.heap.size w' w.heap.size [] ∧ Below w.heap.size w w' := by
  obtain ⟨wA, hA⟩ : ∃ wA, wA = w.alloc (.cells #[.slice none 0 0] 85) := ⟨_, rfl⟩
  have kA : wA.heap[w.heap.size]? = some (.cells #[.slice none 0 0] 85 (0, 0)) := by rw [hA]; exact heap_alloc_new w _
  have HS : Hid (SetK w.heap.size wA w.heap.size []) := Lib.hid ⟨Nat.le_refl _, by decide, List.Pairwise.nil, (fun x h => nomatch h), ⟨.slice none 0 0, kA, rfl, .inl ⟨rfl, rfl⟩⟩⟩
  have Hb : Hid (Below w.heap.size w wA) := Lib.hid (by rw [hA]; exact (Below.refl _ _).alloc (Nat.le_refl _) _)
  have HA := Lib.hid hA
  clear hA kA
  go_enter Tryz.func46, Tryz.ntmps46
  go_wp2_with fail
  go_ret
  rw [← HA.out]
  exact ⟨rfl, HS.out, Hb.out⟩
theorem addE_form {S : List Ky} {x : Ky} (h : formL x = false) : addE S x = 50 := by unfold addE; rw [if_pos h]
theorem addE_dflt {S : List Ky} {x : Ky} (h : formL x = true) (h2 : dfltL x = false) : addE S x = 53 := by unfold addE; rw [if_neg (by rw [h]; simp), if_pos h2]
theorem addE_rest {S : List Ky} {x : Ky} (h : formL x = true) (h2 : dfltL x = true) : addE S x = if (findK S x.name).isSome then 51 else if (lettK S x.letter).isSome then 52 else if S.length = 64 then 54 else 0 := by unfold addE; rw [if_neg (by rw [h]; simp), if_neg (by rw [h2]; simp)]
theorem add_no {S : List Ky} {x : Ky} (h : addE S x ≠ 0) : addK S x = S := by unfold addK; rw [if_neg h]
theorem add_yes {S : List Ky} {x : Ky} (h : addE S x = 0) : addK S x = insK S x := by unfold addK; rw [if_pos h]
/-- The three ways of a default. -/
theorem dflt_ways (x : Ky) : ((parse wordL x.kind x.dflt).2 ≠ 0 ∧ dfltL x = false) ∨ ((parse wordL x.kind x.dflt).2 = 0 ∧ Vb (parse wordL x.kind x.dflt).1 ∧ dfltL x = within wordL (parse wordL x.kind x.dflt).1 x.least x.most) := by
  by_cases h : (parse wordL x.kind x.dflt).2 = 0
  · refine .inr ⟨h, vb_right (parse_right wordL_is (k := x.kind) (l := x.dflt) (by rw [← h])).1, ?_⟩
    unfold dfltL
    rw [decide_eq_true h, Bool.true_and]
  · refine .inl ⟨h, ?_⟩
    unfold dfltL
    rw [decide_eq_false h, Bool.false_and]
/-- A set that has taken one in. -/
theorem SetK.grown {M : Nat} {w w1 : World} {b k : Nat} {is : Bool} {S : List Ky} {x : Ky} {v v' : Value} (h : SetK M w b S) (hx : KyOk x) (hF : FoundAt (S.map (·.name)) x.name k is) (hn : findK S x.name = none) (hlen : S.length ≠ 64)
    (hv : w.heap[b]? = some (.cells #[v] 85 (0, 0))) (hB : Blk 62 6 M w v S.length (rw.flat kyC S)) (hB' : Blk 62 6 M w1 v' (S.length + 1) (rw.flat kyC (S.take k ++ x :: S.drop k))) (hg : w.grownBy w1 v.ownBlock) :
    SetK M (w1.setCell ⟨b, 0, none⟩ v') b (insK S x) ∧ w1.heap[b]? = some (.cells #[v] 85 (0, 0)) := by
  have hb1 : w1.heap[b]? = some (.cells #[v] 85 (0, 0)) := by
    refine (hg.block b (lt_of_block hv) ?_).trans hv
    intro hh
    rcases hB.2 with ⟨rfl, _⟩ | ⟨g, c, cs, rfl, _, _, hb, _⟩
    · cases hh
    · obtain rfl := Option.some.inj hh
      rw [hv] at hb
      cases hb
  have hi := ins_at hF
  have hil : (insK S x).length = S.length + 1 := by
    rw [hi]
    simp only [List.length_append, List.length_take, List.length_cons, List.length_drop]
    have := hF.1
    rw [List.length_map] at this
    omega
  refine ⟨⟨h.lo, by have := h.len; omega, ins_asc h.asc hF hn, fun y hy => ?_, ⟨v', heap_set (o := 0) hb1 v', ?_⟩⟩, hb1⟩
  · rw [hi] at hy
    rcases List.mem_append.1 hy with hy | hy
    · exact h.ok y (List.mem_of_mem_take hy)
    · rcases List.mem_cons.1 hy with rfl | hy
      · exact hx
      · exact h.ok y (List.mem_of_mem_drop hy)
  · rw [hil, hi]
    refine ⟨hB'.1, ?_⟩
    rcases hB'.2 with h1 | ⟨g, c, cs, e, h1, h2, h3, h4⟩
    · exact .inl h1
    · refine .inr ⟨g, c, cs, e, h1, h2, ?_, h4⟩
      have hne : g ≠ b := by
        rintro rfl
        rw [hb1] at h3
        cases h3
      exact heap_set_ne h3 v' hne
end Go.Proofs.YtpfhhaonfbfheaaGreatDoor.ky
