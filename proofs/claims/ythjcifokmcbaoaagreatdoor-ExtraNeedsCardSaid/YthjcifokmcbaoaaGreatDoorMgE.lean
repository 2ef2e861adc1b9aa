/- Laws and contracts on which the statement rests, part E: each text says what it proves, and its conditions. -/
import Derived.Test.YthjcifokmcbaoaaGreatDoorMgD
/- package step's may returns whether pairs may be. Conditions: texts of at most 2147483647 bytes; the listed variables hold what the program's text lays. -/
namespace Go.Proofs.YthjcifokmcbaoaaGreatDoor.st
open Go.ChangeShapes Go.WideShapes Go.ChangeAt Go.RowKit gl
open Go.Sort (grow)

section
variable {P : Program} {ops : Array Oper} {Q : Exit → Act → World → Prop} {md : Region.Mode} {S : World → Prop}
theorem hk_skip {i : Nat} {d : Option Tmp} {fuel : Nat} {listed : Array Bool} {a : Act} {w : World} (hd : (ops[i]?).map (fun o => o.dst) = some d)
    (hs : Region.noSelect ops = true) (hf : Region.free md ops listed i = true) (hr : (Region.ready md ops listed).contains i = true)
    (hQ : ∀ c a w, Q (.panic c) (a.put d undef) w → Q (.panic c) a w) (hw : (ops[i]?).map (fun o => Region.wanted o (yielded ops a.tmps)) = some false) (hS : S w)
    (h : wpAnyH P md ops Q S fuel (listed.setIfInBounds i true) (a.put d undef) w) : wpAnyH P md ops Q S (fuel + 1) listed a w := by
  cases ho : ops[i]? with
  | none => rw [ho] at hd; cases hd
  | some o =>
    rw [ho] at hd hw
    obtain rfl := Option.some.inj hd
    exact wpAnyH_take ho hs hf hr hQ (Or.inr ⟨Option.some.inj hw, rfl⟩) hS h
theorem hk_take {i : Nat} {d : Option Tmp} {v : Value} {fuel : Nat} {listed : Array Bool} {a : Act} {w : World} (hd : (ops[i]?).map (fun o => o.dst) = some d)
    (hs : Region.noSelect ops = true) (hf : Region.free md ops listed i = true) (hr : (Region.ready md ops listed).contains i = true)
    (hQ : ∀ c a w, Q (.panic c) (a.put d v) w → Q (.panic c) a w) (hw : (ops[i]?).map (fun o => Region.wanted o (yielded ops a.tmps)) = some true)
    (hy : ∀ w, S w → match ops[i]? with | some o => (execOp a.eval o).run P w = .ok (.value v) w | none => False) (hS : S w)
    (h : wpAnyH P md ops Q S fuel (listed.setIfInBounds i true) (a.put d v) w) : wpAnyH P md ops Q S (fuel + 1) listed a w := by
  cases ho : ops[i]? with
  | none => rw [ho] at hd; cases hd
  | some o =>
    rw [ho] at hd hw
    simp only [ho] at hy
    obtain rfl := Option.some.inj hd
    exact wpAnyH_take ho hs hf hr hQ (Or.inl ⟨Option.some.inj hw, hy⟩) hS h
theorem hk_call {i : Nat} {fuel : Nat} {listed : Array Bool} {a : Act} {w : World} (hr : Region.ready md ops listed = [i])
    (hw : (ops[i]?).map (fun o => Region.wanted o (yielded ops a.tmps)) = some true)
    (h : ∀ K : Act → World → Prop, Shut (∀ a w, S w → (S w → wpAnyH P md ops Q S fuel (listed.setIfInBounds i true) a w) → K a w) → match ops[i]? with | some o => Oper.wp P o a w K Q | none => False) :
    wpAnyH P md ops Q S (fuel + 1) listed a w := by
  cases ho : ops[i]? with
  | none => rw [ho] at hw; cases hw
  | some o =>
    rw [ho] at hw
    simp only [ho] at h
    refine wpAnyH_ready hr (by simp) (AllReadyH.cons ho (fun K hK => ?_) AllReadyH.nil)
    rw [if_pos (Option.some.inj hw)]
    exact h K hK
end
theorem s3_call {w0 wp w' : World} {b : Nat} {x0 x1 x2 : Value} (h : wp.cell? ⟨b, 0, none⟩ = some x0 ∧ wp.cell? ⟨b, 1, none⟩ = some x1 ∧ wp.cell? ⟨b, 2, none⟩ = some x2 ∧ Hid (Below w0.heap.size w0 wp)) (hb : Below wp.heap.size wp w') :
    w'.cell? ⟨b, 0, none⟩ = some x0 ∧ w'.cell? ⟨b, 1, none⟩ = some x1 ∧ w'.cell? ⟨b, 2, none⟩ = some x2 ∧ Hid (Below w0.heap.size w0 w') :=
  have hlt := World.block_lt_of_cell? _ _ h.1
  ⟨(hb.cell (p := ⟨b, 0, none⟩) hlt).trans h.1, (hb.cell (p := ⟨b, 1, none⟩) hlt).trans h.2.1, (hb.cell (p := ⟨b, 2, none⟩) hlt).trans h.2.2.1, Lib.hid (h.2.2.2.out.trans (hb.mono h.2.2.2.out.size))⟩
theorem s3_slo {w0 wp : World} {b : Nat} {x0 x1 x2 : Value} (hS : Slo w0) (h : wp.cell? ⟨b, 0, none⟩ = some x0 ∧ wp.cell? ⟨b, 1, none⟩ = some x1 ∧ wp.cell? ⟨b, 2, none⟩ = some x2 ∧ Hid (Below w0.heap.size w0 wp)) : Slo wp := hS.later h.2.2.2.out
theorem s3_bel {w0 wp : World} {b : Nat} {x0 x1 x2 : Value} (h : wp.cell? ⟨b, 0, none⟩ = some x0 ∧ wp.cell? ⟨b, 1, none⟩ = some x1 ∧ wp.cell? ⟨b, 2, none⟩ = some x2 ∧ Hid (Below w0.heap.size w0 wp)) : Hid (Below w0.heap.size w0 wp) := h.2.2.2
theorem s6_call {w0 wp w' : World} {b d o : Nat} {x0 x1 x2 y0 y1 y2 : Value} (h : wp.cell? ⟨d, o, none⟩ = some y0 ∧ wp.cell? ⟨d, o + 1, none⟩ = some y1 ∧ wp.cell? ⟨d, o + 2, none⟩ = some y2 ∧ wp.cell? ⟨b, 0, none⟩ = some x0 ∧ wp.cell? ⟨b, 1, none⟩ = some x1 ∧ wp.cell? ⟨b, 2, none⟩ = some x2 ∧ Hid (Below w0.heap.size w0 wp)) (hb : Below wp.heap.size wp w') :
    w'.cell? ⟨d, o, none⟩ = some y0 ∧ w'.cell? ⟨d, o + 1, none⟩ = some y1 ∧ w'.cell? ⟨d, o + 2, none⟩ = some y2 ∧ w'.cell? ⟨b, 0, none⟩ = some x0 ∧ w'.cell? ⟨b, 1, none⟩ = some x1 ∧ w'.cell? ⟨b, 2, none⟩ = some x2 ∧ Hid (Below w0.heap.size w0 w') :=
  have hlt := World.block_lt_of_cell? _ _ h.1
  ⟨(hb.cell (p := ⟨d, o, none⟩) hlt).trans h.1, (hb.cell (p := ⟨d, o + 1, none⟩) hlt).trans h.2.1, (hb.cell (p := ⟨d, o + 2, none⟩) hlt).trans h.2.2.1, s3_call h.2.2.2 hb⟩
theorem s6_slo {w0 wp : World} {b d o : Nat} {x0 x1 x2 y0 y1 y2 : Value} (hS : Slo w0) (h : wp.cell? ⟨d, o, none⟩ = some y0 ∧ wp.cell? ⟨d, o + 1, none⟩ = some y1 ∧ wp.cell? ⟨d, o + 2, none⟩ = some y2 ∧ wp.cell? ⟨b, 0, none⟩ = some x0 ∧ wp.cell? ⟨b, 1, none⟩ = some x1 ∧ wp.cell? ⟨b, 2, none⟩ = some x2 ∧ Hid (Below w0.heap.size w0 wp)) : Slo wp := hS.later h.2.2.2.2.2.2.out
theorem s6_bel {w0 wp : World} {b d o : Nat} {x0 x1 x2 y0 y1 y2 : Value} (h : wp.cell? ⟨d, o, none⟩ = some y0 ∧ wp.cell? ⟨d, o + 1, none⟩ = some y1 ∧ wp.cell? ⟨d, o + 2, none⟩ = some y2 ∧ wp.cell? ⟨b, 0, none⟩ = some x0 ∧ wp.cell? ⟨b, 1, none⟩ = some x1 ∧ wp.cell? ⟨b, 2, none⟩ = some x2 ∧ Hid (Below w0.heap.size w0 wp)) : Hid (Below w0.heap.size w0 wp) := h.2.2.2.2.2.2
theorem grow_bel' {w w' : World} (h : ∃ q os', w' = grow (w.drewN q) os') : Below w.heap.size w w' := by
  obtain ⟨q, os', rfl⟩ := h
  exact ⟨rfl, rfl, rfl, by simp [grow], fun j hj => by simp only [grow]; exact Array.getElem?_append_left hj⟩
set_option maxHeartbeats 8000000 in
set_option maxRecDepth 100000 in
theorem may_any (p : Option Addr) (m c : Nat) (l : List Pr) (hm : m ≤ 4294967295) (hsz : ∀ x ∈ l, PrSz x) (w : World) (hS : Slo w) (h : Prs w (.slice p m c) l) :
    Calls Tryz.prog 70 #[.slice p m c] w fun e w' => e = .returned (.bool (mayL l)) ∧ Below w.heap.size w w' := by
  obtain ⟨hlen, hmc, hptr⟩ := h.ptr
  have HL := Lib.hid h
  have Hlen := Lib.hid hlen
  have HP := Lib.hid hptr
  have Hsz := Lib.hid hsz
  have HS0 := Lib.hid hS
  clear h hlen hptr hsz hS
  go_enter Tryz.func70, Tryz.ntmps70
  go_wp2_with fail
  go_loopw [7] (fun i wr => ∃ n : Nat, n ≤ m ∧ i = .int .i64 n ∧ Hid (okTo l n) ∧ Hid (Below w.heap.size w wr)) (fun i _ => m - (intOf i).toNat)
  case atStart => exact ⟨0, by omega, rfl, Lib.hid fun j x h => by omega, Lib.hid (Below.refl _ _)⟩
  case round =>
    obtain ⟨n, hn, rfl, Hok, Hb⟩ := hrel
    by_cases hlt : n < m
    · obtain ⟨b, o, rfl, hbl⟩ := HP.out (by omega)
      obtain ⟨x, hx⟩ : ∃ x, l[n]? = some x := ⟨_, List.getElem?_eq_getElem (by rw [Hlen.out]; exact hlt)⟩
      have HLr := Lib.hid (HL.out.later Hb.out)
      obtain ⟨c0, c1, c2⟩ := prs_cells HLr.out hx
      obtain ⟨z0, z1, z2⟩ := Hsz.out x (List.mem_of_getElem? hx)
      have HT := Lib.hid fun W (hW : Slo W) => IsWord_any (B x.table) (by rw [B_size]; exact z0) W hW.glo
      have HK := Lib.hid fun W (hW : Slo W) => IsWord_any (B x.key) (by rw [B_size]; exact z1) W hW.glo
      simp only at HT HK
      have Hx := Lib.hid hx
      have Hvz : Hid ((B x.value).size = x.value.length) := Lib.hid (B_size _)
      obtain ⟨wA, hA⟩ : ∃ wA, wA = wr.alloc (.cells #[.string (B x.table), .string (B x.key), .string (B x.value)] 57) := ⟨_, rfl⟩
      have hbk : wA.heap[wr.heap.size]? = some (.cells #[.string (B x.table), .string (B x.key), .string (B x.value)] 57 (0, 0)) := by rw [hA]; exact heap_alloc_new wr _
      have HbA : Hid (Below wr.heap.size wr wA) := Lib.hid (by rw [hA]; exact (Below.refl _ _).alloc (Nat.le_refl _) _)
      have HbB := Lib.hid (then_bel Hb.out HbA.out)
      have HSA : Hid (Slo wA) := Lib.hid (HS0.out.later HbB.out)
      have HA := Lib.hid hA
      have a0 : wA.cell? ⟨wr.heap.size, 0, none⟩ = some (.string (B x.table)) := cell_in (o := 0) hbk
      have a1 : wA.cell? ⟨wr.heap.size, 1, none⟩ = some (.string (B x.key)) := cell_in (o := 1) hbk
      have a2 : wA.cell? ⟨wr.heap.size, 2, none⟩ = some (.string (B x.value)) := cell_in (o := 2) hbk
      clear hx z0 z1 z2 hA hbk
      cases hwt : wordL x.table with
      | false =>
        have Hr : Hid (mayL l = false) := Lib.hid (may_bad Hx.out (.inl (wordP_no1 hwt)))
        rw [hwt] at HT
        clear hwt
        generalize B x.table = x1 at *
        generalize B x.key = x2 at *
        generalize B x.value = x3 at *
        go_wp2_with fail
        rw [← HA.out]
        refine wp_region_held_drew (S := (fun w' => w'.cell? ⟨wr.heap.size, 0, none⟩ = some (.string x1) ∧ w'.cell? ⟨wr.heap.size, 1, none⟩ = some (.string x2) ∧ w'.cell? ⟨wr.heap.size, 2, none⟩ = some (.string x3) ∧ Hid (Below wA.heap.size wA w'))) (by kernel_rfl) ⟨a0, a1, a2, Lib.hid ((Below.refl _ _).drew)⟩ (fun hH0 => ?_)
        clear a0 a1 a2 c0 c1 c2
        try dsimp only at hH0
        refine hk_take (i := 0) (d := some 12) (v := ?_) (by kernel_rfl) (by kernel_rfl) (by kernel_rfl) (by kernel_rfl) (fun _ _ _ h => h) (by kernel_rfl) ?hy (by assumption) ?_
        case hy => (intro w hSw; (try dsimp only at hSw); simp only [List.getElem?_toArray, List.getElem?_cons_zero]; go_simp; all_goals (with_reducible rfl))
        try simp only [Act.put, List.setIfInBounds_toArray, List.set_cons_zero, List.set_cons_succ]
        refine hk_take (i := 1) (d := some 13) (v := ?_) (by kernel_rfl) (by kernel_rfl) (by kernel_rfl) (by kernel_rfl) (fun _ _ _ h => h) (by kernel_rfl) ?hy (by assumption) ?_
        case hy => (intro w hSw; (try dsimp only at hSw); simp only [List.getElem?_toArray, List.getElem?_cons_succ, List.getElem?_cons_zero]; go_simp; all_goals (with_reducible rfl))
        try simp only [Act.put, List.setIfInBounds_toArray, List.set_cons_zero, List.set_cons_succ]
        refine hk_call (i := 2) (by kernel_rfl) (by kernel_rfl) (fun K hK => ?_)
        simp only [List.getElem?_toArray, List.getElem?_cons_succ, List.getElem?_cons_zero]
        go_simp
        (with_reducible refine Calls.mono (HT.out _ (s3_slo HSA.out (by assumption))) ?_)
        rintro e wq1 ⟨rfl, hb⟩
        have hH1 := s3_call hH0 hb
        go_wp2_with fail
        refine hK.out _ _ hH1 (fun _ => ?_)
        clear hK K hb hH0
        try simp only [Act.put, List.setIfInBounds_toArray, List.set_cons_zero, List.set_cons_succ]
        refine hk_take (i := 3) (d := some 15) (v := ?_) (by kernel_rfl) (by kernel_rfl) (by kernel_rfl) (by kernel_rfl) (fun _ _ _ h => h) (by kernel_rfl) ?hy (by assumption) ?_
        case hy => (intro w hSw; (try dsimp only at hSw); simp only [List.getElem?_toArray, List.getElem?_cons_succ, List.getElem?_cons_zero]; go_simp; all_goals (with_reducible rfl))
        try simp only [Act.put, List.setIfInBounds_toArray, List.set_cons_zero, List.set_cons_succ]
        refine hk_take (i := 4) (d := some 16) (v := ?_) (by kernel_rfl) (by kernel_rfl) (by kernel_rfl) (by kernel_rfl) (fun _ _ _ h => h) (by kernel_rfl) ?hy (by assumption) ?_
        case hy => (intro w hSw; (try dsimp only at hSw); simp only [List.getElem?_toArray, List.getElem?_cons_succ, List.getElem?_cons_zero]; go_simp; all_goals (with_reducible rfl))
        try simp only [Act.put, List.setIfInBounds_toArray, List.set_cons_zero, List.set_cons_succ]
        refine hk_skip (i := 5) (d := some 17) (by kernel_rfl) (by kernel_rfl) (by kernel_rfl) (by kernel_rfl) (fun _ _ _ h => h) (by kernel_rfl) (by assumption) ?_
        try simp only [Act.put, List.setIfInBounds_toArray, List.set_cons_zero, List.set_cons_succ]
        refine hk_skip (i := 6) (d := some 18) (by kernel_rfl) (by kernel_rfl) (by kernel_rfl) (by kernel_rfl) (fun _ _ _ h => h) (by kernel_rfl) (by assumption) ?_
        try simp only [Act.put, List.setIfInBounds_toArray, List.set_cons_zero, List.set_cons_succ]
        refine hk_skip (i := 7) (d := some 19) (by kernel_rfl) (by kernel_rfl) (by kernel_rfl) (by kernel_rfl) (fun _ _ _ h => h) (by kernel_rfl) (by assumption) ?_
        try simp only [Act.put, List.setIfInBounds_toArray, List.set_cons_zero, List.set_cons_succ]
        refine hk_skip (i := 8) (d := some 20) (by kernel_rfl) (by kernel_rfl) (by kernel_rfl) (by kernel_rfl) (fun _ _ _ h => h) (by kernel_rfl) (by assumption) ?_
        try simp only [Act.put, List.setIfInBounds_toArray, List.set_cons_zero, List.set_cons_succ]
        refine hk_take (i := 9) (d := some 21) (v := ?_) (by kernel_rfl) (by kernel_rfl) (by kernel_rfl) (by kernel_rfl) (fun _ _ _ h => h) (by kernel_rfl) ?hy (by assumption) ?_
        case hy => (intro w hSw; (try dsimp only at hSw); simp only [List.getElem?_toArray, List.getElem?_cons_succ, List.getElem?_cons_zero]; go_simp; all_goals (with_reducible rfl))
        try simp only [Act.put, List.setIfInBounds_toArray, List.set_cons_zero, List.set_cons_succ]
        refine hk_take (i := 10) (d := some 22) (v := ?_) (by kernel_rfl) (by kernel_rfl) (by kernel_rfl) (by kernel_rfl) (fun _ _ _ h => h) (by kernel_rfl) ?hy (by assumption) ?_
        case hy => (intro w hSw; (try dsimp only at hSw); simp only [List.getElem?_toArray, List.getElem?_cons_succ, List.getElem?_cons_zero]; go_simp; all_goals (with_reducible rfl))
        try simp only [Act.put, List.setIfInBounds_toArray, List.set_cons_zero, List.set_cons_succ]
        refine hk_skip (i := 11) (d := some 23) (by kernel_rfl) (by kernel_rfl) (by kernel_rfl) (by kernel_rfl) (fun _ _ _ h => h) (by kernel_rfl) (by assumption) ?_
        try simp only [Act.put, List.setIfInBounds_toArray, List.set_cons_zero, List.set_cons_succ]
        refine hk_skip (i := 12) (d := some 24) (by kernel_rfl) (by kernel_rfl) (by kernel_rfl) (by kernel_rfl) (fun _ _ _ h => h) (by kernel_rfl) (by assumption) ?_
        try simp only [Act.put, List.setIfInBounds_toArray, List.set_cons_zero, List.set_cons_succ]
        refine hk_skip (i := 13) (d := some 25) (by kernel_rfl) (by kernel_rfl) (by kernel_rfl) (by kernel_rfl) (fun _ _ _ h => h) (by kernel_rfl) (by assumption) ?_
        try simp only [Act.put, List.setIfInBounds_toArray, List.set_cons_zero, List.set_cons_succ]
        refine hk_skip (i := 14) (d := some 26) (by kernel_rfl) (by kernel_rfl) (by kernel_rfl) (by kernel_rfl) (fun _ _ _ h => h) (by kernel_rfl) (by assumption) ?_
        try simp only [Act.put, List.setIfInBounds_toArray, List.set_cons_zero, List.set_cons_succ]
        refine hk_take (i := 15) (d := some 27) (v := ?_) (by kernel_rfl) (by kernel_rfl) (by kernel_rfl) (by kernel_rfl) (fun _ _ _ h => h) (by kernel_rfl) ?hy (by assumption) ?_
        case hy => (intro w hSw; (try dsimp only at hSw); simp only [List.getElem?_toArray, List.getElem?_cons_succ, List.getElem?_cons_zero]; go_simp; all_goals (with_reducible rfl))
        try simp only [Act.put, List.setIfInBounds_toArray, List.set_cons_zero, List.set_cons_succ]
        refine hk_take (i := 16) (d := some 28) (v := ?_) (by kernel_rfl) (by kernel_rfl) (by kernel_rfl) (by kernel_rfl) (fun _ _ _ h => h) (by kernel_rfl) ?hy (by assumption) ?_
        case hy => (intro w hSw; (try dsimp only at hSw); simp only [List.getElem?_toArray, List.getElem?_cons_succ, List.getElem?_cons_zero]; go_simp; all_goals (with_reducible rfl))
        try simp only [Act.put, List.setIfInBounds_toArray, List.set_cons_zero, List.set_cons_succ]
        refine hk_skip (i := 17) (d := some 29) (by kernel_rfl) (by kernel_rfl) (by kernel_rfl) (by kernel_rfl) (fun _ _ _ h => h) (by kernel_rfl) (by assumption) ?_
        try simp only [Act.put, List.setIfInBounds_toArray, List.set_cons_zero, List.set_cons_succ]
        refine hk_skip (i := 18) (d := some 30) (by kernel_rfl) (by kernel_rfl) (by kernel_rfl) (by kernel_rfl) (fun _ _ _ h => h) (by kernel_rfl) (by assumption) ?_
        try simp only [Act.put, List.setIfInBounds_toArray, List.set_cons_zero, List.set_cons_succ]
        refine hk_skip (i := 19) (d := some 31) (by kernel_rfl) (by kernel_rfl) (by kernel_rfl) (by kernel_rfl) (fun _ _ _ h => h) (by kernel_rfl) (by assumption) ?_
        try simp only [Act.put, List.setIfInBounds_toArray, List.set_cons_zero, List.set_cons_succ]
        refine hk_skip (i := 20) (d := some 32) (by kernel_rfl) (by kernel_rfl) (by kernel_rfl) (by kernel_rfl) (fun _ _ _ h => h) (by kernel_rfl) (by assumption) ?_
        try simp only [Act.put, List.setIfInBounds_toArray, List.set_cons_zero, List.set_cons_succ]
        refine hk_skip (i := 21) (d := some 33) (by kernel_rfl) (by kernel_rfl) (by kernel_rfl) (by kernel_rfl) (fun _ _ _ h => h) (by kernel_rfl) (by assumption) ?_
        try simp only [Act.put, List.setIfInBounds_toArray, List.set_cons_zero, List.set_cons_succ]
        refine hk_skip (i := 22) (d := some 34) (by kernel_rfl) (by kernel_rfl) (by kernel_rfl) (by kernel_rfl) (fun _ _ _ h => h) (by kernel_rfl) (by assumption) ?_
        try simp only [Act.put, List.setIfInBounds_toArray, List.set_cons_zero, List.set_cons_succ]
        refine hk_skip (i := 23) (d := some 35) (by kernel_rfl) (by kernel_rfl) (by kernel_rfl) (by kernel_rfl) (fun _ _ _ h => h) (by kernel_rfl) (by assumption) ?_
        try simp only [Act.put, List.setIfInBounds_toArray, List.set_cons_zero, List.set_cons_succ]
        refine hk_skip (i := 24) (d := some 36) (by kernel_rfl) (by kernel_rfl) (by kernel_rfl) (by kernel_rfl) (fun _ _ _ h => h) (by kernel_rfl) (by assumption) ?_
        try simp only [Act.put, List.setIfInBounds_toArray, List.set_cons_zero, List.set_cons_succ]
        refine hk_skip (i := 25) (d := some 37) (by kernel_rfl) (by kernel_rfl) (by kernel_rfl) (by kernel_rfl) (fun _ _ _ h => h) (by kernel_rfl) (by assumption) ?_
        try simp only [Act.put, List.setIfInBounds_toArray, List.set_cons_zero, List.set_cons_succ]
        refine hk_skip (i := 26) (d := some 38) (by kernel_rfl) (by kernel_rfl) (by kernel_rfl) (by kernel_rfl) (fun _ _ _ h => h) (by kernel_rfl) (by assumption) ?_
        try simp only [Act.put, List.setIfInBounds_toArray, List.set_cons_zero, List.set_cons_succ]
        refine hk_skip (i := 27) (d := some 39) (by kernel_rfl) (by kernel_rfl) (by kernel_rfl) (by kernel_rfl) (fun _ _ _ h => h) (by kernel_rfl) (by assumption) ?_
        try simp only [Act.put, List.setIfInBounds_toArray, List.set_cons_zero, List.set_cons_succ]
        refine hk_skip (i := 28) (d := some 40) (by kernel_rfl) (by kernel_rfl) (by kernel_rfl) (by kernel_rfl) (fun _ _ _ h => h) (by kernel_rfl) (by assumption) ?_
        try simp only [Act.put, List.setIfInBounds_toArray, List.set_cons_zero, List.set_cons_succ]
        refine hk_take (i := 29) (d := some 41) (v := ?_) (by kernel_rfl) (by kernel_rfl) (by kernel_rfl) (by kernel_rfl) (fun _ _ _ h => h) (by kernel_rfl) ?hy (by assumption) ?_
        case hy => (intro w hSw; (try dsimp only at hSw); simp only [List.getElem?_toArray, List.getElem?_cons_succ, List.getElem?_cons_zero]; go_simp; all_goals (with_reducible rfl))
        try simp only [Act.put, List.setIfInBounds_toArray, List.set_cons_zero, List.set_cons_succ]
        refine wpAnyH_done (by kernel_rfl) ?_ _
        go_wp2_with fail
        have HbC := Lib.hid (then_bel HbB.out (s3_bel hH1).out)
        go_ret
        rw [Hr.out]
        exact ⟨rfl, HbC.out⟩
      | true =>
        cases hwk : wordL x.key with
        | false =>
          have Hr : Hid (mayL l = false) := Lib.hid (may_bad Hx.out (.inl (wordP_no2 hwk)))
          rw [hwt] at HT
          rw [hwk] at HK
          clear hwt hwk
          generalize B x.table = x1 at *
          generalize B x.key = x2 at *
          generalize B x.value = x3 at *
          go_wp2_with fail
          rw [← HA.out]
          refine wp_region_held_drew (S := (fun w' => w'.cell? ⟨wr.heap.size, 0, none⟩ = some (.string x1) ∧ w'.cell? ⟨wr.heap.size, 1, none⟩ = some (.string x2) ∧ w'.cell? ⟨wr.heap.size, 2, none⟩ = some (.string x3) ∧ Hid (Below wA.heap.size wA w'))) (by kernel_rfl) ⟨a0, a1, a2, Lib.hid ((Below.refl _ _).drew)⟩ (fun hH0 => ?_)
          clear a0 a1 a2 c0 c1 c2
          try dsimp only at hH0
          refine hk_take (i := 0) (d := some 12) (v := ?_) (by kernel_rfl) (by kernel_rfl) (by kernel_rfl) (by kernel_rfl) (fun _ _ _ h => h) (by kernel_rfl) ?hy (by assumption) ?_
          case hy => (intro w hSw; (try dsimp only at hSw); simp only [List.getElem?_toArray, List.getElem?_cons_zero]; go_simp; all_goals (with_reducible rfl))
          try simp only [Act.put, List.setIfInBounds_toArray, List.set_cons_zero, List.set_cons_succ]
          refine hk_take (i := 1) (d := some 13) (v := ?_) (by kernel_rfl) (by kernel_rfl) (by kernel_rfl) (by kernel_rfl) (fun _ _ _ h => h) (by kernel_rfl) ?hy (by assumption) ?_
          case hy => (intro w hSw; (try dsimp only at hSw); simp only [List.getElem?_toArray, List.getElem?_cons_succ, List.getElem?_cons_zero]; go_simp; all_goals (with_reducible rfl))
          try simp only [Act.put, List.setIfInBounds_toArray, List.set_cons_zero, List.set_cons_succ]
          refine hk_call (i := 2) (by kernel_rfl) (by kernel_rfl) (fun K hK => ?_)
          simp only [List.getElem?_toArray, List.getElem?_cons_succ, List.getElem?_cons_zero]
          go_simp
          (with_reducible refine Calls.mono (HT.out _ (s3_slo HSA.out (by assumption))) ?_)
          rintro e wq1 ⟨rfl, hb⟩
          have hH1 := s3_call hH0 hb
          go_wp2_with fail
          refine hK.out _ _ hH1 (fun _ => ?_)
          clear hK K hb hH0
          try simp only [Act.put, List.setIfInBounds_toArray, List.set_cons_zero, List.set_cons_succ]
          refine hk_take (i := 3) (d := some 15) (v := ?_) (by kernel_rfl) (by kernel_rfl) (by kernel_rfl) (by kernel_rfl) (fun _ _ _ h => h) (by kernel_rfl) ?hy (by assumption) ?_
          case hy => (intro w hSw; (try dsimp only at hSw); simp only [List.getElem?_toArray, List.getElem?_cons_succ, List.getElem?_cons_zero]; go_simp; all_goals (with_reducible rfl))
          try simp only [Act.put, List.setIfInBounds_toArray, List.set_cons_zero, List.set_cons_succ]
          refine hk_take (i := 4) (d := some 16) (v := ?_) (by kernel_rfl) (by kernel_rfl) (by kernel_rfl) (by kernel_rfl) (fun _ _ _ h => h) (by kernel_rfl) ?hy (by assumption) ?_
          case hy => (intro w hSw; (try dsimp only at hSw); simp only [List.getElem?_toArray, List.getElem?_cons_succ, List.getElem?_cons_zero]; go_simp; all_goals (with_reducible rfl))
          try simp only [Act.put, List.setIfInBounds_toArray, List.set_cons_zero, List.set_cons_succ]
          refine hk_take (i := 5) (d := some 17) (v := ?_) (by kernel_rfl) (by kernel_rfl) (by kernel_rfl) (by kernel_rfl) (fun _ _ _ h => h) (by kernel_rfl) ?hy (by assumption) ?_
          case hy => (intro w hSw; (try dsimp only at hSw); simp only [List.getElem?_toArray, List.getElem?_cons_succ, List.getElem?_cons_zero]; go_simp; all_goals (with_reducible rfl))
          try simp only [Act.put, List.setIfInBounds_toArray, List.set_cons_zero, List.set_cons_succ]
          refine hk_take (i := 6) (d := some 18) (v := ?_) (by kernel_rfl) (by kernel_rfl) (by kernel_rfl) (by kernel_rfl) (fun _ _ _ h => h) (by kernel_rfl) ?hy (by assumption) ?_
          case hy => (intro w hSw; (try dsimp only at hSw); simp only [List.getElem?_toArray, List.getElem?_cons_succ, List.getElem?_cons_zero]; go_simp; all_goals (with_reducible rfl))
          try simp only [Act.put, List.setIfInBounds_toArray, List.set_cons_zero, List.set_cons_succ]
          refine hk_call (i := 7) (by kernel_rfl) (by kernel_rfl) (fun K hK => ?_)
          simp only [List.getElem?_toArray, List.getElem?_cons_succ, List.getElem?_cons_zero]
          go_simp
          (with_reducible refine Calls.mono (HK.out _ (s3_slo HSA.out (by assumption))) ?_)
          rintro e wq2 ⟨rfl, hb⟩
          have hH2 := s3_call hH1 hb
          go_wp2_with fail
          refine hK.out _ _ hH2 (fun _ => ?_)
          clear hK K hb hH1
          try simp only [Act.put, List.setIfInBounds_toArray, List.set_cons_zero, List.set_cons_succ]
          refine hk_take (i := 8) (d := some 20) (v := ?_) (by kernel_rfl) (by kernel_rfl) (by kernel_rfl) (by kernel_rfl) (fun _ _ _ h => h) (by kernel_rfl) ?hy (by assumption) ?_
          case hy => (intro w hSw; (try dsimp only at hSw); simp only [List.getElem?_toArray, List.getElem?_cons_succ, List.getElem?_cons_zero]; go_simp; all_goals (with_reducible rfl))
          try simp only [Act.put, List.setIfInBounds_toArray, List.set_cons_zero, List.set_cons_succ]
          refine hk_take (i := 9) (d := some 21) (v := ?_) (by kernel_rfl) (by kernel_rfl) (by kernel_rfl) (by kernel_rfl) (fun _ _ _ h => h) (by kernel_rfl) ?hy (by assumption) ?_
          case hy => (intro w hSw; (try dsimp only at hSw); simp only [List.getElem?_toArray, List.getElem?_cons_succ, List.getElem?_cons_zero]; go_simp; all_goals (with_reducible rfl))
          try simp only [Act.put, List.setIfInBounds_toArray, List.set_cons_zero, List.set_cons_succ]
          refine hk_take (i := 10) (d := some 22) (v := ?_) (by kernel_rfl) (by kernel_rfl) (by kernel_rfl) (by kernel_rfl) (fun _ _ _ h => h) (by kernel_rfl) ?hy (by assumption) ?_
          case hy => (intro w hSw; (try dsimp only at hSw); simp only [List.getElem?_toArray, List.getElem?_cons_succ, List.getElem?_cons_zero]; go_simp; all_goals (with_reducible rfl))
          try simp only [Act.put, List.setIfInBounds_toArray, List.set_cons_zero, List.set_cons_succ]
          refine hk_skip (i := 11) (d := some 23) (by kernel_rfl) (by kernel_rfl) (by kernel_rfl) (by kernel_rfl) (fun _ _ _ h => h) (by kernel_rfl) (by assumption) ?_
          try simp only [Act.put, List.setIfInBounds_toArray, List.set_cons_zero, List.set_cons_succ]
          refine hk_skip (i := 12) (d := some 24) (by kernel_rfl) (by kernel_rfl) (by kernel_rfl) (by kernel_rfl) (fun _ _ _ h => h) (by kernel_rfl) (by assumption) ?_
          try simp only [Act.put, List.setIfInBounds_toArray, List.set_cons_zero, List.set_cons_succ]
          refine hk_skip (i := 13) (d := some 25) (by kernel_rfl) (by kernel_rfl) (by kernel_rfl) (by kernel_rfl) (fun _ _ _ h => h) (by kernel_rfl) (by assumption) ?_
          try simp only [Act.put, List.setIfInBounds_toArray, List.set_cons_zero, List.set_cons_succ]
          refine hk_skip (i := 14) (d := some 26) (by kernel_rfl) (by kernel_rfl) (by kernel_rfl) (by kernel_rfl) (fun _ _ _ h => h) (by kernel_rfl) (by assumption) ?_
          try simp only [Act.put, List.setIfInBounds_toArray, List.set_cons_zero, List.set_cons_succ]
          refine hk_take (i := 15) (d := some 27) (v := ?_) (by kernel_rfl) (by kernel_rfl) (by kernel_rfl) (by kernel_rfl) (fun _ _ _ h => h) (by kernel_rfl) ?hy (by assumption) ?_
          case hy => (intro w hSw; (try dsimp only at hSw); simp only [List.getElem?_toArray, List.getElem?_cons_succ, List.getElem?_cons_zero]; go_simp; all_goals (with_reducible rfl))
          try simp only [Act.put, List.setIfInBounds_toArray, List.set_cons_zero, List.set_cons_succ]
          refine hk_take (i := 16) (d := some 28) (v := ?_) (by kernel_rfl) (by kernel_rfl) (by kernel_rfl) (by kernel_rfl) (fun _ _ _ h => h) (by kernel_rfl) ?hy (by assumption) ?_
          case hy => (intro w hSw; (try dsimp only at hSw); simp only [List.getElem?_toArray, List.getElem?_cons_succ, List.getElem?_cons_zero]; go_simp; all_goals (with_reducible rfl))
          try simp only [Act.put, List.setIfInBounds_toArray, List.set_cons_zero, List.set_cons_succ]
          refine hk_skip (i := 17) (d := some 29) (by kernel_rfl) (by kernel_rfl) (by kernel_rfl) (by kernel_rfl) (fun _ _ _ h => h) (by kernel_rfl) (by assumption) ?_
          try simp only [Act.put, List.setIfInBounds_toArray, List.set_cons_zero, List.set_cons_succ]
          refine hk_skip (i := 18) (d := some 30) (by kernel_rfl) (by kernel_rfl) (by kernel_rfl) (by kernel_rfl) (fun _ _ _ h => h) (by kernel_rfl) (by assumption) ?_
          try simp only [Act.put, List.setIfInBounds_toArray, List.set_cons_zero, List.set_cons_succ]
          refine hk_skip (i := 19) (d := some 31) (by kernel_rfl) (by kernel_rfl) (by kernel_rfl) (by kernel_rfl) (fun _ _ _ h => h) (by kernel_rfl) (by assumption) ?_
          try simp only [Act.put, List.setIfInBounds_toArray, List.set_cons_zero, List.set_cons_succ]
          refine hk_skip (i := 20) (d := some 32) (by kernel_rfl) (by kernel_rfl) (by kernel_rfl) (by kernel_rfl) (fun _ _ _ h => h) (by kernel_rfl) (by assumption) ?_
          try simp only [Act.put, List.setIfInBounds_toArray, List.set_cons_zero, List.set_cons_succ]
          refine hk_skip (i := 21) (d := some 33) (by kernel_rfl) (by kernel_rfl) (by kernel_rfl) (by kernel_rfl) (fun _ _ _ h => h) (by kernel_rfl) (by assumption) ?_
          try simp only [Act.put, List.setIfInBounds_toArray, List.set_cons_zero, List.set_cons_succ]
          refine hk_skip (i := 22) (d := some 34) (by kernel_rfl) (by kernel_rfl) (by kernel_rfl) (by kernel_rfl) (fun _ _ _ h => h) (by kernel_rfl) (by assumption) ?_
          try simp only [Act.put, List.setIfInBounds_toArray, List.set_cons_zero, List.set_cons_succ]
          refine hk_skip (i := 23) (d := some 35) (by kernel_rfl) (by kernel_rfl) (by kernel_rfl) (by kernel_rfl) (fun _ _ _ h => h) (by kernel_rfl) (by assumption) ?_
          try simp only [Act.put, List.setIfInBounds_toArray, List.set_cons_zero, List.set_cons_succ]
          refine hk_skip (i := 24) (d := some 36) (by kernel_rfl) (by kernel_rfl) (by kernel_rfl) (by kernel_rfl) (fun _ _ _ h => h) (by kernel_rfl) (by assumption) ?_
          try simp only [Act.put, List.setIfInBounds_toArray, List.set_cons_zero, List.set_cons_succ]
          refine hk_skip (i := 25) (d := some 37) (by kernel_rfl) (by kernel_rfl) (by kernel_rfl) (by kernel_rfl) (fun _ _ _ h => h) (by kernel_rfl) (by assumption) ?_
          try simp only [Act.put, List.setIfInBounds_toArray, List.set_cons_zero, List.set_cons_succ]
          refine hk_skip (i := 26) (d := some 38) (by kernel_rfl) (by kernel_rfl) (by kernel_rfl) (by kernel_rfl) (fun _ _ _ h => h) (by kernel_rfl) (by assumption) ?_
          try simp only [Act.put, List.setIfInBounds_toArray, List.set_cons_zero, List.set_cons_succ]
          refine hk_skip (i := 27) (d := some 39) (by kernel_rfl) (by kernel_rfl) (by kernel_rfl) (by kernel_rfl) (fun _ _ _ h => h) (by kernel_rfl) (by assumption) ?_
          try simp only [Act.put, List.setIfInBounds_toArray, List.set_cons_zero, List.set_cons_succ]
          refine hk_skip (i := 28) (d := some 40) (by kernel_rfl) (by kernel_rfl) (by kernel_rfl) (by kernel_rfl) (fun _ _ _ h => h) (by kernel_rfl) (by assumption) ?_
          try simp only [Act.put, List.setIfInBounds_toArray, List.set_cons_zero, List.set_cons_succ]
          refine hk_take (i := 29) (d := some 41) (v := ?_) (by kernel_rfl) (by kernel_rfl) (by kernel_rfl) (by kernel_rfl) (fun _ _ _ h => h) (by kernel_rfl) ?hy (by assumption) ?_
          case hy => (intro w hSw; (try dsimp only at hSw); simp only [List.getElem?_toArray, List.getElem?_cons_succ, List.getElem?_cons_zero]; go_simp; all_goals (with_reducible rfl))
          try simp only [Act.put, List.setIfInBounds_toArray, List.set_cons_zero, List.set_cons_succ]
          refine wpAnyH_done (by kernel_rfl) ?_ _
          go_wp2_with fail
          have HbC := Lib.hid (then_bel HbB.out (s3_bel hH2).out)
          go_ret
          rw [Hr.out]
          exact ⟨rfl, HbC.out⟩
        | true =>
          by_cases hv : x.value.length ≤ 200
          · have hw : wordP x = true := wordP_of hwt hwk hv
            rw [hwt] at HT
            rw [hwk] at HK
            have hv' : decide ((200 : Int) < ((B x.value).size : Int)) = false := by rw [Hvz.out, decide_eq_false_iff_not]; omega
            have hv'' : decide (200 < (B x.value).size) = false := by rw [Hvz.out, decide_eq_false_iff_not]; omega
            rcases Nat.eq_zero_or_pos n with h0 | h0
            · subst h0
              have Hn := Lib.hid (okTo_succ Hok.out Hx.out hw (fun q hq => by omega))
              rw [Nat.zero_mul, Nat.add_zero] at c0 c1 c2
              have h0i : decide ((0 : Int) < 0) = false := by decide
              clear hwt hwk hv hw
              have hm0 : (0 : Int) < (m : Int) := by omega
              rw [show (((0 : Nat) : Nat) : Int) = 0 from rfl]
              generalize B x.table = x1 at *
              generalize B x.key = x2 at *
              generalize B x.value = x3 at *
              go_wp2_with fail
              rw [← HA.out]
              refine wp_region_held_drew (S := (fun w' => w'.cell? ⟨wr.heap.size, 0, none⟩ = some (.string x1) ∧ w'.cell? ⟨wr.heap.size, 1, none⟩ = some (.string x2) ∧ w'.cell? ⟨wr.heap.size, 2, none⟩ = some (.string x3) ∧ Hid (Below wA.heap.size wA w'))) (by kernel_rfl) ⟨a0, a1, a2, Lib.hid ((Below.refl _ _).drew)⟩ (fun hH0 => ?_)
              clear a0 a1 a2 c0 c1 c2
              try dsimp only at hH0
              refine hk_take (i := 0) (d := some 12) (v := ?_) (by kernel_rfl) (by kernel_rfl) (by kernel_rfl) (by kernel_rfl) (fun _ _ _ h => h) (by kernel_rfl) ?hy (by assumption) ?_
              case hy => (intro w hSw; (try dsimp only at hSw); simp only [List.getElem?_toArray, List.getElem?_cons_zero]; go_simp; all_goals (with_reducible rfl))
              try simp only [Act.put, List.setIfInBounds_toArray, List.set_cons_zero, List.set_cons_succ]
              refine hk_take (i := 1) (d := some 13) (v := ?_) (by kernel_rfl) (by kernel_rfl) (by kernel_rfl) (by kernel_rfl) (fun _ _ _ h => h) (by kernel_rfl) ?hy (by assumption) ?_
              case hy => (intro w hSw; (try dsimp only at hSw); simp only [List.getElem?_toArray, List.getElem?_cons_succ, List.getElem?_cons_zero]; go_simp; all_goals (with_reducible rfl))
              try simp only [Act.put, List.setIfInBounds_toArray, List.set_cons_zero, List.set_cons_succ]
              refine hk_call (i := 2) (by kernel_rfl) (by kernel_rfl) (fun K hK => ?_)
              simp only [List.getElem?_toArray, List.getElem?_cons_succ, List.getElem?_cons_zero]
              go_simp
              (with_reducible refine Calls.mono (HT.out _ (s3_slo HSA.out (by assumption))) ?_)
              rintro e wq1 ⟨rfl, hb⟩
              have hH1 := s3_call hH0 hb
              go_wp2_with fail
              refine hK.out _ _ hH1 (fun _ => ?_)
              clear hK K hb hH0
              try simp only [Act.put, List.setIfInBounds_toArray, List.set_cons_zero, List.set_cons_succ]
              refine hk_take (i := 3) (d := some 15) (v := ?_) (by kernel_rfl) (by kernel_rfl) (by kernel_rfl) (by kernel_rfl) (fun _ _ _ h => h) (by kernel_rfl) ?hy (by assumption) ?_
              case hy => (intro w hSw; (try dsimp only at hSw); simp only [List.getElem?_toArray, List.getElem?_cons_succ, List.getElem?_cons_zero]; go_simp; all_goals (with_reducible rfl))
              try simp only [Act.put, List.setIfInBounds_toArray, List.set_cons_zero, List.set_cons_succ]
              refine hk_take (i := 4) (d := some 16) (v := ?_) (by kernel_rfl) (by kernel_rfl) (by kernel_rfl) (by kernel_rfl) (fun _ _ _ h => h) (by kernel_rfl) ?hy (by assumption) ?_
              case hy => (intro w hSw; (try dsimp only at hSw); simp only [List.getElem?_toArray, List.getElem?_cons_succ, List.getElem?_cons_zero]; go_simp; all_goals (with_reducible rfl))
              try simp only [Act.put, List.setIfInBounds_toArray, List.set_cons_zero, List.set_cons_succ]
              refine hk_take (i := 5) (d := some 17) (v := ?_) (by kernel_rfl) (by kernel_rfl) (by kernel_rfl) (by kernel_rfl) (fun _ _ _ h => h) (by kernel_rfl) ?hy (by assumption) ?_
              case hy => (intro w hSw; (try dsimp only at hSw); simp only [List.getElem?_toArray, List.getElem?_cons_succ, List.getElem?_cons_zero]; go_simp; all_goals (with_reducible rfl))
              try simp only [Act.put, List.setIfInBounds_toArray, List.set_cons_zero, List.set_cons_succ]
              refine hk_take (i := 6) (d := some 18) (v := ?_) (by kernel_rfl) (by kernel_rfl) (by kernel_rfl) (by kernel_rfl) (fun _ _ _ h => h) (by kernel_rfl) ?hy (by assumption) ?_
              case hy => (intro w hSw; (try dsimp only at hSw); simp only [List.getElem?_toArray, List.getElem?_cons_succ, List.getElem?_cons_zero]; go_simp; all_goals (with_reducible rfl))
              try simp only [Act.put, List.setIfInBounds_toArray, List.set_cons_zero, List.set_cons_succ]
              refine hk_call (i := 7) (by kernel_rfl) (by kernel_rfl) (fun K hK => ?_)
              simp only [List.getElem?_toArray, List.getElem?_cons_succ, List.getElem?_cons_zero]
              go_simp
              (with_reducible refine Calls.mono (HK.out _ (s3_slo HSA.out (by assumption))) ?_)
              rintro e wq2 ⟨rfl, hb⟩
              have hH2 := s3_call hH1 hb
              go_wp2_with fail
              refine hK.out _ _ hH2 (fun _ => ?_)
              clear hK K hb hH1
              try simp only [Act.put, List.setIfInBounds_toArray, List.set_cons_zero, List.set_cons_succ]
              refine hk_take (i := 8) (d := some 20) (v := ?_) (by kernel_rfl) (by kernel_rfl) (by kernel_rfl) (by kernel_rfl) (fun _ _ _ h => h) (by kernel_rfl) ?hy (by assumption) ?_
              case hy => (intro w hSw; (try dsimp only at hSw); simp only [List.getElem?_toArray, List.getElem?_cons_succ, List.getElem?_cons_zero]; go_simp; all_goals (with_reducible rfl))
              try simp only [Act.put, List.setIfInBounds_toArray, List.set_cons_zero, List.set_cons_succ]
              refine hk_take (i := 9) (d := some 21) (v := ?_) (by kernel_rfl) (by kernel_rfl) (by kernel_rfl) (by kernel_rfl) (fun _ _ _ h => h) (by kernel_rfl) ?hy (by assumption) ?_
              case hy => (intro w hSw; (try dsimp only at hSw); simp only [List.getElem?_toArray, List.getElem?_cons_succ, List.getElem?_cons_zero]; go_simp; all_goals (with_reducible rfl))
              try simp only [Act.put, List.setIfInBounds_toArray, List.set_cons_zero, List.set_cons_succ]
              refine hk_take (i := 10) (d := some 22) (v := ?_) (by kernel_rfl) (by kernel_rfl) (by kernel_rfl) (by kernel_rfl) (fun _ _ _ h => h) (by kernel_rfl) ?hy (by assumption) ?_
              case hy => (intro w hSw; (try dsimp only at hSw); simp only [List.getElem?_toArray, List.getElem?_cons_succ, List.getElem?_cons_zero]; go_simp; all_goals (with_reducible rfl))
              try simp only [Act.put, List.setIfInBounds_toArray, List.set_cons_zero, List.set_cons_succ]
              refine hk_take (i := 11) (d := some 23) (v := ?_) (by kernel_rfl) (by kernel_rfl) (by kernel_rfl) (by kernel_rfl) (fun _ _ _ h => h) (by kernel_rfl) ?hy (by assumption) ?_
              case hy => (intro w hSw; (try dsimp only at hSw); simp only [List.getElem?_toArray, List.getElem?_cons_succ, List.getElem?_cons_zero]; go_simp; all_goals (with_reducible rfl))
              try simp only [Act.put, List.setIfInBounds_toArray, List.set_cons_zero, List.set_cons_succ]
              refine hk_take (i := 12) (d := some 24) (v := ?_) (by kernel_rfl) (by kernel_rfl) (by kernel_rfl) (by kernel_rfl) (fun _ _ _ h => h) (by kernel_rfl) ?hy (by assumption) ?_
              case hy => (intro w hSw; (try dsimp only at hSw); simp only [List.getElem?_toArray, List.getElem?_cons_succ, List.getElem?_cons_zero]; go_simp; all_goals (with_reducible rfl))
              try simp only [Act.put, List.setIfInBounds_toArray, List.set_cons_zero, List.set_cons_succ]
              refine hk_take (i := 13) (d := some 25) (v := ?_) (by kernel_rfl) (by kernel_rfl) (by kernel_rfl) (by kernel_rfl) (fun _ _ _ h => h) (by kernel_rfl) ?hy (by assumption) ?_
              case hy => (intro w hSw; (try dsimp only at hSw); simp only [List.getElem?_toArray, List.getElem?_cons_succ, List.getElem?_cons_zero]; go_simp; all_goals (with_reducible rfl))
              try simp only [Act.put, List.setIfInBounds_toArray, List.set_cons_zero, List.set_cons_succ]
              refine hk_take (i := 14) (d := some 26) (v := ?_) (by kernel_rfl) (by kernel_rfl) (by kernel_rfl) (by kernel_rfl) (fun _ _ _ h => h) (by kernel_rfl) ?hy (by assumption) ?_
              case hy => (intro w hSw; (try dsimp only at hSw); simp only [List.getElem?_toArray, List.getElem?_cons_succ, List.getElem?_cons_zero]; go_simp; all_goals (with_reducible rfl))
              try simp only [Act.put, List.setIfInBounds_toArray, List.set_cons_zero, List.set_cons_succ]
              refine hk_take (i := 15) (d := some 27) (v := ?_) (by kernel_rfl) (by kernel_rfl) (by kernel_rfl) (by kernel_rfl) (fun _ _ _ h => h) (by kernel_rfl) ?hy (by assumption) ?_
              case hy => (intro w hSw; (try dsimp only at hSw); simp only [List.getElem?_toArray, List.getElem?_cons_succ, List.getElem?_cons_zero]; go_simp; all_goals (with_reducible rfl))
              try simp only [Act.put, List.setIfInBounds_toArray, List.set_cons_zero, List.set_cons_succ]
              refine hk_take (i := 16) (d := some 28) (v := ?_) (by kernel_rfl) (by kernel_rfl) (by kernel_rfl) (by kernel_rfl) (fun _ _ _ h => h) (by kernel_rfl) ?hy (by assumption) ?_
              case hy => (intro w hSw; (try dsimp only at hSw); simp only [List.getElem?_toArray, List.getElem?_cons_succ, List.getElem?_cons_zero]; go_simp; all_goals (with_reducible rfl))
              try simp only [Act.put, List.setIfInBounds_toArray, List.set_cons_zero, List.set_cons_succ]
              refine hk_take (i := 17) (d := some 29) (v := ?_) (by kernel_rfl) (by kernel_rfl) (by kernel_rfl) (by kernel_rfl) (fun _ _ _ h => h) (by kernel_rfl) ?hy (by assumption) ?_
              case hy => (intro w hSw; (try dsimp only at hSw); simp only [List.getElem?_toArray, List.getElem?_cons_succ, List.getElem?_cons_zero]; go_simp; all_goals (with_reducible rfl))
              try simp only [Act.put, List.setIfInBounds_toArray, List.set_cons_zero, List.set_cons_succ]
              refine hk_take (i := 18) (d := some 30) (v := ?_) (by kernel_rfl) (by kernel_rfl) (by kernel_rfl) (by kernel_rfl) (fun _ _ _ h => h) (by kernel_rfl) ?hy (by assumption) ?_
              case hy => (intro w hSw; (try dsimp only at hSw); simp only [List.getElem?_toArray, List.getElem?_cons_succ, List.getElem?_cons_zero]; go_simp; all_goals (with_reducible rfl))
              try simp only [Act.put, List.setIfInBounds_toArray, List.set_cons_zero, List.set_cons_succ]
              refine hk_take (i := 19) (d := some 31) (v := ?_) (by kernel_rfl) (by kernel_rfl) (by kernel_rfl) (by kernel_rfl) (fun _ _ _ h => h) (by kernel_rfl) ?hy (by assumption) ?_
              case hy => (intro w hSw; (try dsimp only at hSw); simp only [List.getElem?_toArray, List.getElem?_cons_succ, List.getElem?_cons_zero]; go_simp; all_goals (with_reducible rfl))
              try simp only [Act.put, List.setIfInBounds_toArray, List.set_cons_zero, List.set_cons_succ]
              refine hk_skip (i := 20) (d := some 32) (by kernel_rfl) (by kernel_rfl) (by kernel_rfl) (by kernel_rfl) (fun _ _ _ h => h) (by kernel_rfl) (by assumption) ?_
              try simp only [Act.put, List.setIfInBounds_toArray, List.set_cons_zero, List.set_cons_succ]
              refine hk_skip (i := 21) (d := some 33) (by kernel_rfl) (by kernel_rfl) (by kernel_rfl) (by kernel_rfl) (fun _ _ _ h => h) (by kernel_rfl) (by assumption) ?_
              try simp only [Act.put, List.setIfInBounds_toArray, List.set_cons_zero, List.set_cons_succ]
              refine hk_skip (i := 22) (d := some 34) (by kernel_rfl) (by kernel_rfl) (by kernel_rfl) (by kernel_rfl) (fun _ _ _ h => h) (by kernel_rfl) (by assumption) ?_
              try simp only [Act.put, List.setIfInBounds_toArray, List.set_cons_zero, List.set_cons_succ]
              refine hk_skip (i := 23) (d := some 35) (by kernel_rfl) (by kernel_rfl) (by kernel_rfl) (by kernel_rfl) (fun _ _ _ h => h) (by kernel_rfl) (by assumption) ?_
              try simp only [Act.put, List.setIfInBounds_toArray, List.set_cons_zero, List.set_cons_succ]
              refine hk_skip (i := 24) (d := some 36) (by kernel_rfl) (by kernel_rfl) (by kernel_rfl) (by kernel_rfl) (fun _ _ _ h => h) (by kernel_rfl) (by assumption) ?_
              try simp only [Act.put, List.setIfInBounds_toArray, List.set_cons_zero, List.set_cons_succ]
              refine hk_skip (i := 25) (d := some 37) (by kernel_rfl) (by kernel_rfl) (by kernel_rfl) (by kernel_rfl) (fun _ _ _ h => h) (by kernel_rfl) (by assumption) ?_
              try simp only [Act.put, List.setIfInBounds_toArray, List.set_cons_zero, List.set_cons_succ]
              refine hk_skip (i := 26) (d := some 38) (by kernel_rfl) (by kernel_rfl) (by kernel_rfl) (by kernel_rfl) (fun _ _ _ h => h) (by kernel_rfl) (by assumption) ?_
              try simp only [Act.put, List.setIfInBounds_toArray, List.set_cons_zero, List.set_cons_succ]
              refine hk_skip (i := 27) (d := some 39) (by kernel_rfl) (by kernel_rfl) (by kernel_rfl) (by kernel_rfl) (fun _ _ _ h => h) (by kernel_rfl) (by assumption) ?_
              try simp only [Act.put, List.setIfInBounds_toArray, List.set_cons_zero, List.set_cons_succ]
              refine hk_take (i := 28) (d := some 40) (v := ?_) (by kernel_rfl) (by kernel_rfl) (by kernel_rfl) (by kernel_rfl) (fun _ _ _ h => h) (by kernel_rfl) ?hy (by assumption) ?_
              case hy => (intro w hSw; (try dsimp only at hSw); simp only [List.getElem?_toArray, List.getElem?_cons_succ, List.getElem?_cons_zero]; go_simp; all_goals (with_reducible rfl))
              try simp only [Act.put, List.setIfInBounds_toArray, List.set_cons_zero, List.set_cons_succ]
              refine hk_take (i := 29) (d := some 41) (v := ?_) (by kernel_rfl) (by kernel_rfl) (by kernel_rfl) (by kernel_rfl) (fun _ _ _ h => h) (by kernel_rfl) ?hy (by assumption) ?_
              case hy => (intro w hSw; (try dsimp only at hSw); simp only [List.getElem?_toArray, List.getElem?_cons_succ, List.getElem?_cons_zero]; go_simp; all_goals (with_reducible rfl))
              try simp only [Act.put, List.setIfInBounds_toArray, List.set_cons_zero, List.set_cons_succ]
              refine wpAnyH_done (by kernel_rfl) ?_ _
              go_wp2_with fail
              have HbC := Lib.hid (then_bel HbB.out (s3_bel hH2).out)
              go_roundw
              case rel => exact ⟨0 + 1, by omega, by go_num, Hn, HbC⟩
              case measure => simp [intOf]; omega
            · obtain ⟨y, hy⟩ : ∃ y, l[n - 1]? = some y := ⟨_, List.getElem?_eq_getElem (by rw [Hlen.out]; omega)⟩
              have HLA := Lib.hid (HL.out.later HbB.out)
              obtain ⟨d0, d1, d2⟩ := prs_cells HLA.out hy
              have HC := Lib.hid fun W (hW : Slo W) => (compare_any y x W).mono fun e w' h => (⟨h.1, grow_bel' h.2⟩ : _ ∧ Below W.heap.size W w')
              simp only [prC, List.toArray] at HC
              have h0i : (0 : Int) < (n : Int) := by omega
              have h0d : decide ((0 : Int) < (n : Int)) = true := by simp; omega
              have h0e : decide (0 < n) = true := by simp; omega
              have hn1 : IntKind.i64.wrap ((n : Int) - 1) = (n : Int) - 1 := IntWalk.i64_in _ (by omega)
              have hn2 : 0 ≤ (n : Int) - 1 := by omega
              have hn3 : (n : Int) - 1 < (m : Int) := by omega
              have hn4 : ((n : Int) - 1).toNat = n - 1 := by omega
              have hn5 : (0 : Int) ≤ (n : Int) := by omega
              have hn6 : (n : Int) < (m : Int) := by omega
              have hn7 : (1 : Int) ≤ (n : Int) := by omega
              have hn8 : (n : Int) < (m : Int) + 1 := by omega
              have hcf := cf_lt y x
              unfold ltOf at hcf
              cases hlt2 : ltP y x
              · have Hr : Hid (mayL l = false) := Lib.hid (may_bad Hx.out (.inr ⟨y, h0, hy, hlt2⟩))
                rw [hlt2, decide_eq_false_iff_not] at hcf
                have hcr : decide ((0 : Int) ≤ cfP y x) = true := by rw [decide_eq_true_iff]; omega
                have hcr' : (0 : Int) ≤ cfP y x := by omega
                clear hwt hwk hv hw hlt2 hy hcf
                generalize cfP y x = cr at *
                generalize B x.table = x1 at *
                generalize B x.key = x2 at *
                generalize B x.value = x3 at *
                generalize B y.table = y1 at *
                generalize B y.key = y2 at *
                generalize B y.value = y3 at *
                go_wp2_with fail
                rw [← HA.out]
                refine wp_region_held_drew (S := (fun w' => w'.cell? ⟨b, o + (n - 1) * 3, none⟩ = some (.string y1) ∧ w'.cell? ⟨b, o + (n - 1) * 3 + 1, none⟩ = some (.string y2) ∧ w'.cell? ⟨b, o + (n - 1) * 3 + 2, none⟩ = some (.string y3) ∧ w'.cell? ⟨wr.heap.size, 0, none⟩ = some (.string x1) ∧ w'.cell? ⟨wr.heap.size, 1, none⟩ = some (.string x2) ∧ w'.cell? ⟨wr.heap.size, 2, none⟩ = some (.string x3) ∧ Hid (Below wA.heap.size wA w'))) (by kernel_rfl) ⟨d0, d1, d2, a0, a1, a2, Lib.hid ((Below.refl _ _).drew)⟩ (fun hH0 => ?_)
                clear d0 d1 d2 a0 a1 a2 c0 c1 c2
                try dsimp only at hH0
                refine hk_take (i := 0) (d := some 12) (v := ?_) (by kernel_rfl) (by kernel_rfl) (by kernel_rfl) (by kernel_rfl) (fun _ _ _ h => h) (by kernel_rfl) ?hy (by assumption) ?_
                case hy => (intro w hSw; (try dsimp only at hSw); simp only [List.getElem?_toArray, List.getElem?_cons_zero]; go_simp; all_goals (with_reducible rfl))
                try simp only [Act.put, List.setIfInBounds_toArray, List.set_cons_zero, List.set_cons_succ]
                refine hk_take (i := 1) (d := some 13) (v := ?_) (by kernel_rfl) (by kernel_rfl) (by kernel_rfl) (by kernel_rfl) (fun _ _ _ h => h) (by kernel_rfl) ?hy (by assumption) ?_
                case hy => (intro w hSw; (try dsimp only at hSw); simp only [List.getElem?_toArray, List.getElem?_cons_succ, List.getElem?_cons_zero]; go_simp; all_goals (with_reducible rfl))
                try simp only [Act.put, List.setIfInBounds_toArray, List.set_cons_zero, List.set_cons_succ]
                refine hk_call (i := 2) (by kernel_rfl) (by kernel_rfl) (fun K hK => ?_)
                simp only [List.getElem?_toArray, List.getElem?_cons_succ, List.getElem?_cons_zero]
                go_simp
                (with_reducible refine Calls.mono (HT.out _ (s6_slo HSA.out (by assumption))) ?_)
                rintro e wq1 ⟨rfl, hb⟩
                have hH1 := s6_call hH0 hb
                go_wp2_with fail
                refine hK.out _ _ hH1 (fun _ => ?_)
                clear hK K hb hH0
                try simp only [Act.put, List.setIfInBounds_toArray, List.set_cons_zero, List.set_cons_succ]
                refine hk_take (i := 3) (d := some 15) (v := ?_) (by kernel_rfl) (by kernel_rfl) (by kernel_rfl) (by kernel_rfl) (fun _ _ _ h => h) (by kernel_rfl) ?hy (by assumption) ?_
                case hy => (intro w hSw; (try dsimp only at hSw); simp only [List.getElem?_toArray, List.getElem?_cons_succ, List.getElem?_cons_zero]; go_simp; all_goals (with_reducible rfl))
                try simp only [Act.put, List.setIfInBounds_toArray, List.set_cons_zero, List.set_cons_succ]
                refine hk_take (i := 4) (d := some 16) (v := ?_) (by kernel_rfl) (by kernel_rfl) (by kernel_rfl) (by kernel_rfl) (fun _ _ _ h => h) (by kernel_rfl) ?hy (by assumption) ?_
                case hy => (intro w hSw; (try dsimp only at hSw); simp only [List.getElem?_toArray, List.getElem?_cons_succ, List.getElem?_cons_zero]; go_simp; all_goals (with_reducible rfl))
                try simp only [Act.put, List.setIfInBounds_toArray, List.set_cons_zero, List.set_cons_succ]
                refine hk_take (i := 5) (d := some 17) (v := ?_) (by kernel_rfl) (by kernel_rfl) (by kernel_rfl) (by kernel_rfl) (fun _ _ _ h => h) (by kernel_rfl) ?hy (by assumption) ?_
                case hy => (intro w hSw; (try dsimp only at hSw); simp only [List.getElem?_toArray, List.getElem?_cons_succ, List.getElem?_cons_zero]; go_simp; all_goals (with_reducible rfl))
                try simp only [Act.put, List.setIfInBounds_toArray, List.set_cons_zero, List.set_cons_succ]
                refine hk_take (i := 6) (d := some 18) (v := ?_) (by kernel_rfl) (by kernel_rfl) (by kernel_rfl) (by kernel_rfl) (fun _ _ _ h => h) (by kernel_rfl) ?hy (by assumption) ?_
                case hy => (intro w hSw; (try dsimp only at hSw); simp only [List.getElem?_toArray, List.getElem?_cons_succ, List.getElem?_cons_zero]; go_simp; all_goals (with_reducible rfl))
                try simp only [Act.put, List.setIfInBounds_toArray, List.set_cons_zero, List.set_cons_succ]
                refine hk_call (i := 7) (by kernel_rfl) (by kernel_rfl) (fun K hK => ?_)
                simp only [List.getElem?_toArray, List.getElem?_cons_succ, List.getElem?_cons_zero]
                go_simp
                (with_reducible refine Calls.mono (HK.out _ (s6_slo HSA.out (by assumption))) ?_)
                rintro e wq2 ⟨rfl, hb⟩
                have hH2 := s6_call hH1 hb
                go_wp2_with fail
                refine hK.out _ _ hH2 (fun _ => ?_)
                clear hK K hb hH1
                try simp only [Act.put, List.setIfInBounds_toArray, List.set_cons_zero, List.set_cons_succ]
                refine hk_take (i := 8) (d := some 20) (v := ?_) (by kernel_rfl) (by kernel_rfl) (by kernel_rfl) (by kernel_rfl) (fun _ _ _ h => h) (by kernel_rfl) ?hy (by assumption) ?_
                case hy => (intro w hSw; (try dsimp only at hSw); simp only [List.getElem?_toArray, List.getElem?_cons_succ, List.getElem?_cons_zero]; go_simp; all_goals (with_reducible rfl))
                try simp only [Act.put, List.setIfInBounds_toArray, List.set_cons_zero, List.set_cons_succ]
                refine hk_take (i := 9) (d := some 21) (v := ?_) (by kernel_rfl) (by kernel_rfl) (by kernel_rfl) (by kernel_rfl) (fun _ _ _ h => h) (by kernel_rfl) ?hy (by assumption) ?_
                case hy => (intro w hSw; (try dsimp only at hSw); simp only [List.getElem?_toArray, List.getElem?_cons_succ, List.getElem?_cons_zero]; go_simp; all_goals (with_reducible rfl))
                try simp only [Act.put, List.setIfInBounds_toArray, List.set_cons_zero, List.set_cons_succ]
                refine hk_take (i := 10) (d := some 22) (v := ?_) (by kernel_rfl) (by kernel_rfl) (by kernel_rfl) (by kernel_rfl) (fun _ _ _ h => h) (by kernel_rfl) ?hy (by assumption) ?_
                case hy => (intro w hSw; (try dsimp only at hSw); simp only [List.getElem?_toArray, List.getElem?_cons_succ, List.getElem?_cons_zero]; go_simp; all_goals (with_reducible rfl))
                try simp only [Act.put, List.setIfInBounds_toArray, List.set_cons_zero, List.set_cons_succ]
                refine hk_take (i := 11) (d := some 23) (v := ?_) (by kernel_rfl) (by kernel_rfl) (by kernel_rfl) (by kernel_rfl) (fun _ _ _ h => h) (by kernel_rfl) ?hy (by assumption) ?_
                case hy => (intro w hSw; (try dsimp only at hSw); simp only [List.getElem?_toArray, List.getElem?_cons_succ, List.getElem?_cons_zero]; go_simp; all_goals (with_reducible rfl))
                try simp only [Act.put, List.setIfInBounds_toArray, List.set_cons_zero, List.set_cons_succ]
                refine hk_take (i := 12) (d := some 24) (v := ?_) (by kernel_rfl) (by kernel_rfl) (by kernel_rfl) (by kernel_rfl) (fun _ _ _ h => h) (by kernel_rfl) ?hy (by assumption) ?_
                case hy => (intro w hSw; (try dsimp only at hSw); simp only [List.getElem?_toArray, List.getElem?_cons_succ, List.getElem?_cons_zero]; go_simp; all_goals (with_reducible rfl))
                try simp only [Act.put, List.setIfInBounds_toArray, List.set_cons_zero, List.set_cons_succ]
                refine hk_take (i := 13) (d := some 25) (v := ?_) (by kernel_rfl) (by kernel_rfl) (by kernel_rfl) (by kernel_rfl) (fun _ _ _ h => h) (by kernel_rfl) ?hy (by assumption) ?_
                case hy => (intro w hSw; (try dsimp only at hSw); simp only [List.getElem?_toArray, List.getElem?_cons_succ, List.getElem?_cons_zero]; go_simp; all_goals (with_reducible rfl))
                try simp only [Act.put, List.setIfInBounds_toArray, List.set_cons_zero, List.set_cons_succ]
                refine hk_take (i := 14) (d := some 26) (v := ?_) (by kernel_rfl) (by kernel_rfl) (by kernel_rfl) (by kernel_rfl) (fun _ _ _ h => h) (by kernel_rfl) ?hy (by assumption) ?_
                case hy => (intro w hSw; (try dsimp only at hSw); simp only [List.getElem?_toArray, List.getElem?_cons_succ, List.getElem?_cons_zero]; go_simp; all_goals (with_reducible rfl))
                try simp only [Act.put, List.setIfInBounds_toArray, List.set_cons_zero, List.set_cons_succ]
                refine hk_take (i := 15) (d := some 27) (v := ?_) (by kernel_rfl) (by kernel_rfl) (by kernel_rfl) (by kernel_rfl) (fun _ _ _ h => h) (by kernel_rfl) ?hy (by assumption) ?_
                case hy => (intro w hSw; (try dsimp only at hSw); simp only [List.getElem?_toArray, List.getElem?_cons_succ, List.getElem?_cons_zero]; go_simp; all_goals (with_reducible rfl))
                try simp only [Act.put, List.setIfInBounds_toArray, List.set_cons_zero, List.set_cons_succ]
                refine hk_take (i := 16) (d := some 28) (v := ?_) (by kernel_rfl) (by kernel_rfl) (by kernel_rfl) (by kernel_rfl) (fun _ _ _ h => h) (by kernel_rfl) ?hy (by assumption) ?_
                case hy => (intro w hSw; (try dsimp only at hSw); simp only [List.getElem?_toArray, List.getElem?_cons_succ, List.getElem?_cons_zero]; go_simp; all_goals (with_reducible rfl))
                try simp only [Act.put, List.setIfInBounds_toArray, List.set_cons_zero, List.set_cons_succ]
                refine hk_take (i := 17) (d := some 29) (v := ?_) (by kernel_rfl) (by kernel_rfl) (by kernel_rfl) (by kernel_rfl) (fun _ _ _ h => h) (by kernel_rfl) ?hy (by assumption) ?_
                case hy => (intro w hSw; (try dsimp only at hSw); simp only [List.getElem?_toArray, List.getElem?_cons_succ, List.getElem?_cons_zero]; go_simp; all_goals (with_reducible rfl))
                try simp only [Act.put, List.setIfInBounds_toArray, List.set_cons_zero, List.set_cons_succ]
                refine hk_take (i := 18) (d := some 30) (v := ?_) (by kernel_rfl) (by kernel_rfl) (by kernel_rfl) (by kernel_rfl) (fun _ _ _ h => h) (by kernel_rfl) ?hy (by assumption) ?_
                case hy => (intro w hSw; (try dsimp only at hSw); simp only [List.getElem?_toArray, List.getElem?_cons_succ, List.getElem?_cons_zero]; go_simp; all_goals (with_reducible rfl))
                try simp only [Act.put, List.setIfInBounds_toArray, List.set_cons_zero, List.set_cons_succ]
                refine hk_take (i := 19) (d := some 31) (v := ?_) (by kernel_rfl) (by kernel_rfl) (by kernel_rfl) (by kernel_rfl) (fun _ _ _ h => h) (by kernel_rfl) ?hy (by assumption) ?_
                case hy => (intro w hSw; (try dsimp only at hSw); simp only [List.getElem?_toArray, List.getElem?_cons_succ, List.getElem?_cons_zero]; go_simp; all_goals (with_reducible rfl))
                try simp only [Act.put, List.setIfInBounds_toArray, List.set_cons_zero, List.set_cons_succ]
                refine hk_take (i := 20) (d := some 32) (v := ?_) (by kernel_rfl) (by kernel_rfl) (by kernel_rfl) (by kernel_rfl) (fun _ _ _ h => h) (by kernel_rfl) ?hy (by assumption) ?_
                case hy => (intro w hSw; (try dsimp only at hSw); simp only [List.getElem?_toArray, List.getElem?_cons_succ, List.getElem?_cons_zero]; go_simp; all_goals (with_reducible rfl))
                try simp only [Act.put, List.setIfInBounds_toArray, List.set_cons_zero, List.set_cons_succ]
                refine hk_take (i := 21) (d := some 33) (v := ?_) (by kernel_rfl) (by kernel_rfl) (by kernel_rfl) (by kernel_rfl) (fun _ _ _ h => h) (by kernel_rfl) ?hy (by assumption) ?_
                case hy => (intro w hSw; (try dsimp only at hSw); simp only [List.getElem?_toArray, List.getElem?_cons_succ, List.getElem?_cons_zero]; go_simp; all_goals (with_reducible rfl))
                try simp only [Act.put, List.setIfInBounds_toArray, List.set_cons_zero, List.set_cons_succ]
                refine hk_take (i := 22) (d := some 34) (v := ?_) (by kernel_rfl) (by kernel_rfl) (by kernel_rfl) (by kernel_rfl) (fun _ _ _ h => h) (by kernel_rfl) ?hy (by assumption) ?_
                case hy => (intro w hSw; (try dsimp only at hSw); simp only [List.getElem?_toArray, List.getElem?_cons_succ, List.getElem?_cons_zero]; go_simp; all_goals (with_reducible rfl))
                try simp only [Act.put, List.setIfInBounds_toArray, List.set_cons_zero, List.set_cons_succ]
                refine hk_take (i := 23) (d := some 35) (v := ?_) (by kernel_rfl) (by kernel_rfl) (by kernel_rfl) (by kernel_rfl) (fun _ _ _ h => h) (by kernel_rfl) ?hy (by assumption) ?_
                case hy => (intro w hSw; (try dsimp only at hSw); simp only [List.getElem?_toArray, List.getElem?_cons_succ, List.getElem?_cons_zero]; go_simp; all_goals (with_reducible rfl))
                try simp only [Act.put, List.setIfInBounds_toArray, List.set_cons_zero, List.set_cons_succ]
                refine hk_take (i := 24) (d := some 36) (v := ?_) (by kernel_rfl) (by kernel_rfl) (by kernel_rfl) (by kernel_rfl) (fun _ _ _ h => h) (by kernel_rfl) ?hy (by assumption) ?_
                case hy => (intro w hSw; (try dsimp only at hSw); simp only [List.getElem?_toArray, List.getElem?_cons_succ, List.getElem?_cons_zero]; go_simp; all_goals (with_reducible rfl))
                try simp only [Act.put, List.setIfInBounds_toArray, List.set_cons_zero, List.set_cons_succ]
                refine hk_take (i := 25) (d := some 37) (v := ?_) (by kernel_rfl) (by kernel_rfl) (by kernel_rfl) (by kernel_rfl) (fun _ _ _ h => h) (by kernel_rfl) ?hy (by assumption) ?_
                case hy => (intro w hSw; (try dsimp only at hSw); simp only [List.getElem?_toArray, List.getElem?_cons_succ, List.getElem?_cons_zero]; go_simp; all_goals (with_reducible rfl))
                try simp only [Act.put, List.setIfInBounds_toArray, List.set_cons_zero, List.set_cons_succ]
                refine hk_call (i := 26) (by kernel_rfl) (by kernel_rfl) (fun K hK => ?_)
                simp only [List.getElem?_toArray, List.getElem?_cons_succ, List.getElem?_cons_zero]
                go_simp
                (with_reducible refine Calls.mono (HC.out _ (s6_slo HSA.out (by assumption))) ?_)
                rintro e wq3 ⟨rfl, hb⟩
                have hH3 := s6_call hH2 hb
                go_wp2_with fail
                refine hK.out _ _ hH3 (fun _ => ?_)
                clear hK K hb hH2
                try simp only [Act.put, List.setIfInBounds_toArray, List.set_cons_zero, List.set_cons_succ]
                refine hk_take (i := 27) (d := some 39) (v := ?_) (by kernel_rfl) (by kernel_rfl) (by kernel_rfl) (by kernel_rfl) (fun _ _ _ h => h) (by kernel_rfl) ?hy (by assumption) ?_
                case hy => (intro w hSw; (try dsimp only at hSw); simp only [List.getElem?_toArray, List.getElem?_cons_succ, List.getElem?_cons_zero]; go_simp; all_goals (with_reducible rfl))
                try simp only [Act.put, List.setIfInBounds_toArray, List.set_cons_zero, List.set_cons_succ]
                refine hk_take (i := 28) (d := some 40) (v := ?_) (by kernel_rfl) (by kernel_rfl) (by kernel_rfl) (by kernel_rfl) (fun _ _ _ h => h) (by kernel_rfl) ?hy (by assumption) ?_
                case hy => (intro w hSw; (try dsimp only at hSw); simp only [List.getElem?_toArray, List.getElem?_cons_succ, List.getElem?_cons_zero]; go_simp; all_goals (with_reducible rfl))
                try simp only [Act.put, List.setIfInBounds_toArray, List.set_cons_zero, List.set_cons_succ]
                refine hk_take (i := 29) (d := some 41) (v := ?_) (by kernel_rfl) (by kernel_rfl) (by kernel_rfl) (by kernel_rfl) (fun _ _ _ h => h) (by kernel_rfl) ?hy (by assumption) ?_
                case hy => (intro w hSw; (try dsimp only at hSw); simp only [List.getElem?_toArray, List.getElem?_cons_succ, List.getElem?_cons_zero]; go_simp; all_goals (with_reducible rfl))
                try simp only [Act.put, List.setIfInBounds_toArray, List.set_cons_zero, List.set_cons_succ]
                refine wpAnyH_done (by kernel_rfl) ?_ _
                go_wp2_with fail
                have HbC := Lib.hid (then_bel HbB.out (s6_bel hH3).out)
                go_ret
                rw [Hr.out]
                exact ⟨rfl, HbC.out⟩
              · have Hn := Lib.hid (okTo_succ Hok.out Hx.out hw (fun q _ hq => by rw [hy] at hq; obtain rfl := Option.some.inj hq; exact hlt2))
                rw [hlt2, decide_eq_true_iff] at hcf
                have hcr : decide ((0 : Int) ≤ cfP y x) = false := by rw [decide_eq_false_iff_not]; omega
                clear hwt hwk hv hw hlt2 hy
                generalize cfP y x = cr at *
                generalize B x.table = x1 at *
                generalize B x.key = x2 at *
                generalize B x.value = x3 at *
                generalize B y.table = y1 at *
                generalize B y.key = y2 at *
                generalize B y.value = y3 at *
                go_wp2_with fail
                rw [← HA.out]
                refine wp_region_held_drew (S := (fun w' => w'.cell? ⟨b, o + (n - 1) * 3, none⟩ = some (.string y1) ∧ w'.cell? ⟨b, o + (n - 1) * 3 + 1, none⟩ = some (.string y2) ∧ w'.cell? ⟨b, o + (n - 1) * 3 + 2, none⟩ = some (.string y3) ∧ w'.cell? ⟨wr.heap.size, 0, none⟩ = some (.string x1) ∧ w'.cell? ⟨wr.heap.size, 1, none⟩ = some (.string x2) ∧ w'.cell? ⟨wr.heap.size, 2, none⟩ = some (.string x3) ∧ Hid (Below wA.heap.size wA w'))) (by kernel_rfl) ⟨d0, d1, d2, a0, a1, a2, Lib.hid ((Below.refl _ _).drew)⟩ (fun hH0 => ?_)
                clear d0 d1 d2 a0 a1 a2 c0 c1 c2
                try dsimp only at hH0
                refine hk_take (i := 0) (d := some 12) (v := ?_) (by kernel_rfl) (by kernel_rfl) (by kernel_rfl) (by kernel_rfl) (fun _ _ _ h => h) (by kernel_rfl) ?hy (by assumption) ?_
                case hy => (intro w hSw; (try dsimp only at hSw); simp only [List.getElem?_toArray, List.getElem?_cons_zero]; go_simp; all_goals (with_reducible rfl))
                try simp only [Act.put, List.setIfInBounds_toArray, List.set_cons_zero, List.set_cons_succ]
                refine hk_take (i := 1) (d := some 13) (v := ?_) (by kernel_rfl) (by kernel_rfl) (by kernel_rfl) (by kernel_rfl) (fun _ _ _ h => h) (by kernel_rfl) ?hy (by assumption) ?_
                case hy => (intro w hSw; (try dsimp only at hSw); simp only [List.getElem?_toArray, List.getElem?_cons_succ, List.getElem?_cons_zero]; go_simp; all_goals (with_reducible rfl))
                try simp only [Act.put, List.setIfInBounds_toArray, List.set_cons_zero, List.set_cons_succ]
                refine hk_call (i := 2) (by kernel_rfl) (by kernel_rfl) (fun K hK => ?_)
                simp only [List.getElem?_toArray, List.getElem?_cons_succ, List.getElem?_cons_zero]
                go_simp
                (with_reducible refine Calls.mono (HT.out _ (s6_slo HSA.out (by assumption))) ?_)
                rintro e wq1 ⟨rfl, hb⟩
                have hH1 := s6_call hH0 hb
                go_wp2_with fail
                refine hK.out _ _ hH1 (fun _ => ?_)
                clear hK K hb hH0
                try simp only [Act.put, List.setIfInBounds_toArray, List.set_cons_zero, List.set_cons_succ]
                refine hk_take (i := 3) (d := some 15) (v := ?_) (by kernel_rfl) (by kernel_rfl) (by kernel_rfl) (by kernel_rfl) (fun _ _ _ h => h) (by kernel_rfl) ?hy (by assumption) ?_
                case hy => (intro w hSw; (try dsimp only at hSw); simp only [List.getElem?_toArray, List.getElem?_cons_succ, List.getElem?_cons_zero]; go_simp; all_goals (with_reducible rfl))
                try simp only [Act.put, List.setIfInBounds_toArray, List.set_cons_zero, List.set_cons_succ]
                refine hk_take (i := 4) (d := some 16) (v := ?_) (by kernel_rfl) (by kernel_rfl) (by kernel_rfl) (by kernel_rfl) (fun _ _ _ h => h) (by kernel_rfl) ?hy (by assumption) ?_
                case hy => (intro w hSw; (try dsimp only at hSw); simp only [List.getElem?_toArray, List.getElem?_cons_succ, List.getElem?_cons_zero]; go_simp; all_goals (with_reducible rfl))
                try simp only [Act.put, List.setIfInBounds_toArray, List.set_cons_zero, List.set_cons_succ]
                refine hk_take (i := 5) (d := some 17) (v := ?_) (by kernel_rfl) (by kernel_rfl) (by kernel_rfl) (by kernel_rfl) (fun _ _ _ h => h) (by kernel_rfl) ?hy (by assumption) ?_
                case hy => (intro w hSw; (try dsimp only at hSw); simp only [List.getElem?_toArray, List.getElem?_cons_succ, List.getElem?_cons_zero]; go_simp; all_goals (with_reducible rfl))
                try simp only [Act.put, List.setIfInBounds_toArray, List.set_cons_zero, List.set_cons_succ]
                refine hk_take (i := 6) (d := some 18) (v := ?_) (by kernel_rfl) (by kernel_rfl) (by kernel_rfl) (by kernel_rfl) (fun _ _ _ h => h) (by kernel_rfl) ?hy (by assumption) ?_
                case hy => (intro w hSw; (try dsimp only at hSw); simp only [List.getElem?_toArray, List.getElem?_cons_succ, List.getElem?_cons_zero]; go_simp; all_goals (with_reducible rfl))
                try simp only [Act.put, List.setIfInBounds_toArray, List.set_cons_zero, List.set_cons_succ]
                refine hk_call (i := 7) (by kernel_rfl) (by kernel_rfl) (fun K hK => ?_)
                simp only [List.getElem?_toArray, List.getElem?_cons_succ, List.getElem?_cons_zero]
                go_simp
                (with_reducible refine Calls.mono (HK.out _ (s6_slo HSA.out (by assumption))) ?_)
                rintro e wq2 ⟨rfl, hb⟩
                have hH2 := s6_call hH1 hb
                go_wp2_with fail
                refine hK.out _ _ hH2 (fun _ => ?_)
                clear hK K hb hH1
                try simp only [Act.put, List.setIfInBounds_toArray, List.set_cons_zero, List.set_cons_succ]
                refine hk_take (i := 8) (d := some 20) (v := ?_) (by kernel_rfl) (by kernel_rfl) (by kernel_rfl) (by kernel_rfl) (fun _ _ _ h => h) (by kernel_rfl) ?hy (by assumption) ?_
                case hy => (intro w hSw; (try dsimp only at hSw); simp only [List.getElem?_toArray, List.getElem?_cons_succ, List.getElem?_cons_zero]; go_simp; all_goals (with_reducible rfl))
                try simp only [Act.put, List.setIfInBounds_toArray, List.set_cons_zero, List.set_cons_succ]
                refine hk_take (i := 9) (d := some 21) (v := ?_) (by kernel_rfl) (by kernel_rfl) (by kernel_rfl) (by kernel_rfl) (fun _ _ _ h => h) (by kernel_rfl) ?hy (by assumption) ?_
                case hy => (intro w hSw; (try dsimp only at hSw); simp only [List.getElem?_toArray, List.getElem?_cons_succ, List.getElem?_cons_zero]; go_simp; all_goals (with_reducible rfl))
                try simp only [Act.put, List.setIfInBounds_toArray, List.set_cons_zero, List.set_cons_succ]
                refine hk_take (i := 10) (d := some 22) (v := ?_) (by kernel_rfl) (by kernel_rfl) (by kernel_rfl) (by kernel_rfl) (fun _ _ _ h => h) (by kernel_rfl) ?hy (by assumption) ?_
                case hy => (intro w hSw; (try dsimp only at hSw); simp only [List.getElem?_toArray, List.getElem?_cons_succ, List.getElem?_cons_zero]; go_simp; all_goals (with_reducible rfl))
                try simp only [Act.put, List.setIfInBounds_toArray, List.set_cons_zero, List.set_cons_succ]
                refine hk_take (i := 11) (d := some 23) (v := ?_) (by kernel_rfl) (by kernel_rfl) (by kernel_rfl) (by kernel_rfl) (fun _ _ _ h => h) (by kernel_rfl) ?hy (by assumption) ?_
                case hy => (intro w hSw; (try dsimp only at hSw); simp only [List.getElem?_toArray, List.getElem?_cons_succ, List.getElem?_cons_zero]; go_simp; all_goals (with_reducible rfl))
                try simp only [Act.put, List.setIfInBounds_toArray, List.set_cons_zero, List.set_cons_succ]
                refine hk_take (i := 12) (d := some 24) (v := ?_) (by kernel_rfl) (by kernel_rfl) (by kernel_rfl) (by kernel_rfl) (fun _ _ _ h => h) (by kernel_rfl) ?hy (by assumption) ?_
                case hy => (intro w hSw; (try dsimp only at hSw); simp only [List.getElem?_toArray, List.getElem?_cons_succ, List.getElem?_cons_zero]; go_simp; all_goals (with_reducible rfl))
                try simp only [Act.put, List.setIfInBounds_toArray, List.set_cons_zero, List.set_cons_succ]
                refine hk_take (i := 13) (d := some 25) (v := ?_) (by kernel_rfl) (by kernel_rfl) (by kernel_rfl) (by kernel_rfl) (fun _ _ _ h => h) (by kernel_rfl) ?hy (by assumption) ?_
                case hy => (intro w hSw; (try dsimp only at hSw); simp only [List.getElem?_toArray, List.getElem?_cons_succ, List.getElem?_cons_zero]; go_simp; all_goals (with_reducible rfl))
                try simp only [Act.put, List.setIfInBounds_toArray, List.set_cons_zero, List.set_cons_succ]
                refine hk_take (i := 14) (d := some 26) (v := ?_) (by kernel_rfl) (by kernel_rfl) (by kernel_rfl) (by kernel_rfl) (fun _ _ _ h => h) (by kernel_rfl) ?hy (by assumption) ?_
                case hy => (intro w hSw; (try dsimp only at hSw); simp only [List.getElem?_toArray, List.getElem?_cons_succ, List.getElem?_cons_zero]; go_simp; all_goals (with_reducible rfl))
                try simp only [Act.put, List.setIfInBounds_toArray, List.set_cons_zero, List.set_cons_succ]
                refine hk_take (i := 15) (d := some 27) (v := ?_) (by kernel_rfl) (by kernel_rfl) (by kernel_rfl) (by kernel_rfl) (fun _ _ _ h => h) (by kernel_rfl) ?hy (by assumption) ?_
                case hy => (intro w hSw; (try dsimp only at hSw); simp only [List.getElem?_toArray, List.getElem?_cons_succ, List.getElem?_cons_zero]; go_simp; all_goals (with_reducible rfl))
                try simp only [Act.put, List.setIfInBounds_toArray, List.set_cons_zero, List.set_cons_succ]
                refine hk_take (i := 16) (d := some 28) (v := ?_) (by kernel_rfl) (by kernel_rfl) (by kernel_rfl) (by kernel_rfl) (fun _ _ _ h => h) (by kernel_rfl) ?hy (by assumption) ?_
                case hy => (intro w hSw; (try dsimp only at hSw); simp only [List.getElem?_toArray, List.getElem?_cons_succ, List.getElem?_cons_zero]; go_simp; all_goals (with_reducible rfl))
                try simp only [Act.put, List.setIfInBounds_toArray, List.set_cons_zero, List.set_cons_succ]
                refine hk_take (i := 17) (d := some 29) (v := ?_) (by kernel_rfl) (by kernel_rfl) (by kernel_rfl) (by kernel_rfl) (fun _ _ _ h => h) (by kernel_rfl) ?hy (by assumption) ?_
                case hy => (intro w hSw; (try dsimp only at hSw); simp only [List.getElem?_toArray, List.getElem?_cons_succ, List.getElem?_cons_zero]; go_simp; all_goals (with_reducible rfl))
                try simp only [Act.put, List.setIfInBounds_toArray, List.set_cons_zero, List.set_cons_succ]
                refine hk_take (i := 18) (d := some 30) (v := ?_) (by kernel_rfl) (by kernel_rfl) (by kernel_rfl) (by kernel_rfl) (fun _ _ _ h => h) (by kernel_rfl) ?hy (by assumption) ?_
                case hy => (intro w hSw; (try dsimp only at hSw); simp only [List.getElem?_toArray, List.getElem?_cons_succ, List.getElem?_cons_zero]; go_simp; all_goals (with_reducible rfl))
                try simp only [Act.put, List.setIfInBounds_toArray, List.set_cons_zero, List.set_cons_succ]
                refine hk_take (i := 19) (d := some 31) (v := ?_) (by kernel_rfl) (by kernel_rfl) (by kernel_rfl) (by kernel_rfl) (fun _ _ _ h => h) (by kernel_rfl) ?hy (by assumption) ?_
                case hy => (intro w hSw; (try dsimp only at hSw); simp only [List.getElem?_toArray, List.getElem?_cons_succ, List.getElem?_cons_zero]; go_simp; all_goals (with_reducible rfl))
                try simp only [Act.put, List.setIfInBounds_toArray, List.set_cons_zero, List.set_cons_succ]
                refine hk_take (i := 20) (d := some 32) (v := ?_) (by kernel_rfl) (by kernel_rfl) (by kernel_rfl) (by kernel_rfl) (fun _ _ _ h => h) (by kernel_rfl) ?hy (by assumption) ?_
                case hy => (intro w hSw; (try dsimp only at hSw); simp only [List.getElem?_toArray, List.getElem?_cons_succ, List.getElem?_cons_zero]; go_simp; all_goals (with_reducible rfl))
                try simp only [Act.put, List.setIfInBounds_toArray, List.set_cons_zero, List.set_cons_succ]
                refine hk_take (i := 21) (d := some 33) (v := ?_) (by kernel_rfl) (by kernel_rfl) (by kernel_rfl) (by kernel_rfl) (fun _ _ _ h => h) (by kernel_rfl) ?hy (by assumption) ?_
                case hy => (intro w hSw; (try dsimp only at hSw); simp only [List.getElem?_toArray, List.getElem?_cons_succ, List.getElem?_cons_zero]; go_simp; all_goals (with_reducible rfl))
                try simp only [Act.put, List.setIfInBounds_toArray, List.set_cons_zero, List.set_cons_succ]
                refine hk_take (i := 22) (d := some 34) (v := ?_) (by kernel_rfl) (by kernel_rfl) (by kernel_rfl) (by kernel_rfl) (fun _ _ _ h => h) (by kernel_rfl) ?hy (by assumption) ?_
                case hy => (intro w hSw; (try dsimp only at hSw); simp only [List.getElem?_toArray, List.getElem?_cons_succ, List.getElem?_cons_zero]; go_simp; all_goals (with_reducible rfl))
                try simp only [Act.put, List.setIfInBounds_toArray, List.set_cons_zero, List.set_cons_succ]
                refine hk_take (i := 23) (d := some 35) (v := ?_) (by kernel_rfl) (by kernel_rfl) (by kernel_rfl) (by kernel_rfl) (fun _ _ _ h => h) (by kernel_rfl) ?hy (by assumption) ?_
                case hy => (intro w hSw; (try dsimp only at hSw); simp only [List.getElem?_toArray, List.getElem?_cons_succ, List.getElem?_cons_zero]; go_simp; all_goals (with_reducible rfl))
                try simp only [Act.put, List.setIfInBounds_toArray, List.set_cons_zero, List.set_cons_succ]
                refine hk_take (i := 24) (d := some 36) (v := ?_) (by kernel_rfl) (by kernel_rfl) (by kernel_rfl) (by kernel_rfl) (fun _ _ _ h => h) (by kernel_rfl) ?hy (by assumption) ?_
                case hy => (intro w hSw; (try dsimp only at hSw); simp only [List.getElem?_toArray, List.getElem?_cons_succ, List.getElem?_cons_zero]; go_simp; all_goals (with_reducible rfl))
                try simp only [Act.put, List.setIfInBounds_toArray, List.set_cons_zero, List.set_cons_succ]
                refine hk_take (i := 25) (d := some 37) (v := ?_) (by kernel_rfl) (by kernel_rfl) (by kernel_rfl) (by kernel_rfl) (fun _ _ _ h => h) (by kernel_rfl) ?hy (by assumption) ?_
                case hy => (intro w hSw; (try dsimp only at hSw); simp only [List.getElem?_toArray, List.getElem?_cons_succ, List.getElem?_cons_zero]; go_simp; all_goals (with_reducible rfl))
                try simp only [Act.put, List.setIfInBounds_toArray, List.set_cons_zero, List.set_cons_succ]
                refine hk_call (i := 26) (by kernel_rfl) (by kernel_rfl) (fun K hK => ?_)
                simp only [List.getElem?_toArray, List.getElem?_cons_succ, List.getElem?_cons_zero]
                go_simp
                (with_reducible refine Calls.mono (HC.out _ (s6_slo HSA.out (by assumption))) ?_)
                rintro e wq3 ⟨rfl, hb⟩
                have hH3 := s6_call hH2 hb
                go_wp2_with fail
                refine hK.out _ _ hH3 (fun _ => ?_)
                clear hK K hb hH2
                try simp only [Act.put, List.setIfInBounds_toArray, List.set_cons_zero, List.set_cons_succ]
                refine hk_take (i := 27) (d := some 39) (v := ?_) (by kernel_rfl) (by kernel_rfl) (by kernel_rfl) (by kernel_rfl) (fun _ _ _ h => h) (by kernel_rfl) ?hy (by assumption) ?_
                case hy => (intro w hSw; (try dsimp only at hSw); simp only [List.getElem?_toArray, List.getElem?_cons_succ, List.getElem?_cons_zero]; go_simp; all_goals (with_reducible rfl))
                try simp only [Act.put, List.setIfInBounds_toArray, List.set_cons_zero, List.set_cons_succ]
                refine hk_take (i := 28) (d := some 40) (v := ?_) (by kernel_rfl) (by kernel_rfl) (by kernel_rfl) (by kernel_rfl) (fun _ _ _ h => h) (by kernel_rfl) ?hy (by assumption) ?_
                case hy => (intro w hSw; (try dsimp only at hSw); simp only [List.getElem?_toArray, List.getElem?_cons_succ, List.getElem?_cons_zero]; go_simp; all_goals (with_reducible rfl))
                try simp only [Act.put, List.setIfInBounds_toArray, List.set_cons_zero, List.set_cons_succ]
                refine hk_take (i := 29) (d := some 41) (v := ?_) (by kernel_rfl) (by kernel_rfl) (by kernel_rfl) (by kernel_rfl) (fun _ _ _ h => h) (by kernel_rfl) ?hy (by assumption) ?_
                case hy => (intro w hSw; (try dsimp only at hSw); simp only [List.getElem?_toArray, List.getElem?_cons_succ, List.getElem?_cons_zero]; go_simp; all_goals (with_reducible rfl))
                try simp only [Act.put, List.setIfInBounds_toArray, List.set_cons_zero, List.set_cons_succ]
                refine wpAnyH_done (by kernel_rfl) ?_ _
                go_wp2_with fail
                have HbC := Lib.hid (then_bel HbB.out (s6_bel hH3).out)
                go_roundw
                case rel => exact ⟨n + 1, by omega, by go_num, Hn, HbC⟩
                case measure => simp [intOf]; omega
          · have Hr : Hid (mayL l = false) := Lib.hid (may_bad Hx.out (.inl (wordP_no3 hv)))
            rw [hwt] at HT
            rw [hwk] at HK
            have hv1 : (200 : Int) < ((B x.value).size : Int) := by rw [Hvz.out]; omega
            have hv' : decide ((200 : Int) < ((B x.value).size : Int)) = true := by rw [decide_eq_true_iff]; exact hv1
            have hv'' : decide (200 < (B x.value).size) = true := by rw [decide_eq_true_iff]; omega
            clear hwt hwk hv
            generalize B x.table = x1 at *
            generalize B x.key = x2 at *
            generalize B x.value = x3 at *
            go_wp2_with fail
            rw [← HA.out]
            refine wp_region_held_drew (S := (fun w' => w'.cell? ⟨wr.heap.size, 0, none⟩ = some (.string x1) ∧ w'.cell? ⟨wr.heap.size, 1, none⟩ = some (.string x2) ∧ w'.cell? ⟨wr.heap.size, 2, none⟩ = some (.string x3) ∧ Hid (Below wA.heap.size wA w'))) (by kernel_rfl) ⟨a0, a1, a2, Lib.hid ((Below.refl _ _).drew)⟩ (fun hH0 => ?_)
            clear a0 a1 a2 c0 c1 c2
            try dsimp only at hH0
            refine hk_take (i := 0) (d := some 12) (v := ?_) (by kernel_rfl) (by kernel_rfl) (by kernel_rfl) (by kernel_rfl) (fun _ _ _ h => h) (by kernel_rfl) ?hy (by assumption) ?_
            case hy => (intro w hSw; (try dsimp only at hSw); simp only [List.getElem?_toArray, List.getElem?_cons_zero]; go_simp; all_goals (with_reducible rfl))
            try simp only [Act.put, List.setIfInBounds_toArray, List.set_cons_zero, List.set_cons_succ]
            refine hk_take (i := 1) (d := some 13) (v := ?_) (by kernel_rfl) (by kernel_rfl) (by kernel_rfl) (by kernel_rfl) (fun _ _ _ h => h) (by kernel_rfl) ?hy (by assumption) ?_
            case hy => (intro w hSw; (try dsimp only at hSw); simp only [List.getElem?_toArray, List.getElem?_cons_succ, List.getElem?_cons_zero]; go_simp; all_goals (with_reducible rfl))
            try simp only [Act.put, List.setIfInBounds_toArray, List.set_cons_zero, List.set_cons_succ]
            refine hk_call (i := 2) (by kernel_rfl) (by kernel_rfl) (fun K hK => ?_)
            simp only [List.getElem?_toArray, List.getElem?_cons_succ, List.getElem?_cons_zero]
            go_simp
            (with_reducible refine Calls.mono (HT.out _ (s3_slo HSA.out (by assumption))) ?_)
            rintro e wq1 ⟨rfl, hb⟩
            have hH1 := s3_call hH0 hb
            go_wp2_with fail
            refine hK.out _ _ hH1 (fun _ => ?_)
            clear hK K hb hH0
            try simp only [Act.put, List.setIfInBounds_toArray, List.set_cons_zero, List.set_cons_succ]
            refine hk_take (i := 3) (d := some 15) (v := ?_) (by kernel_rfl) (by kernel_rfl) (by kernel_rfl) (by kernel_rfl) (fun _ _ _ h => h) (by kernel_rfl) ?hy (by assumption) ?_
            case hy => (intro w hSw; (try dsimp only at hSw); simp only [List.getElem?_toArray, List.getElem?_cons_succ, List.getElem?_cons_zero]; go_simp; all_goals (with_reducible rfl))
            try simp only [Act.put, List.setIfInBounds_toArray, List.set_cons_zero, List.set_cons_succ]
            refine hk_take (i := 4) (d := some 16) (v := ?_) (by kernel_rfl) (by kernel_rfl) (by kernel_rfl) (by kernel_rfl) (fun _ _ _ h => h) (by kernel_rfl) ?hy (by assumption) ?_
            case hy => (intro w hSw; (try dsimp only at hSw); simp only [List.getElem?_toArray, List.getElem?_cons_succ, List.getElem?_cons_zero]; go_simp; all_goals (with_reducible rfl))
            try simp only [Act.put, List.setIfInBounds_toArray, List.set_cons_zero, List.set_cons_succ]
            refine hk_take (i := 5) (d := some 17) (v := ?_) (by kernel_rfl) (by kernel_rfl) (by kernel_rfl) (by kernel_rfl) (fun _ _ _ h => h) (by kernel_rfl) ?hy (by assumption) ?_
            case hy => (intro w hSw; (try dsimp only at hSw); simp only [List.getElem?_toArray, List.getElem?_cons_succ, List.getElem?_cons_zero]; go_simp; all_goals (with_reducible rfl))
            try simp only [Act.put, List.setIfInBounds_toArray, List.set_cons_zero, List.set_cons_succ]
            refine hk_take (i := 6) (d := some 18) (v := ?_) (by kernel_rfl) (by kernel_rfl) (by kernel_rfl) (by kernel_rfl) (fun _ _ _ h => h) (by kernel_rfl) ?hy (by assumption) ?_
            case hy => (intro w hSw; (try dsimp only at hSw); simp only [List.getElem?_toArray, List.getElem?_cons_succ, List.getElem?_cons_zero]; go_simp; all_goals (with_reducible rfl))
            try simp only [Act.put, List.setIfInBounds_toArray, List.set_cons_zero, List.set_cons_succ]
            refine hk_call (i := 7) (by kernel_rfl) (by kernel_rfl) (fun K hK => ?_)
            simp only [List.getElem?_toArray, List.getElem?_cons_succ, List.getElem?_cons_zero]
            go_simp
            (with_reducible refine Calls.mono (HK.out _ (s3_slo HSA.out (by assumption))) ?_)
            rintro e wq2 ⟨rfl, hb⟩
            have hH2 := s3_call hH1 hb
            go_wp2_with fail
            refine hK.out _ _ hH2 (fun _ => ?_)
            clear hK K hb hH1
            try simp only [Act.put, List.setIfInBounds_toArray, List.set_cons_zero, List.set_cons_succ]
            refine hk_take (i := 8) (d := some 20) (v := ?_) (by kernel_rfl) (by kernel_rfl) (by kernel_rfl) (by kernel_rfl) (fun _ _ _ h => h) (by kernel_rfl) ?hy (by assumption) ?_
            case hy => (intro w hSw; (try dsimp only at hSw); simp only [List.getElem?_toArray, List.getElem?_cons_succ, List.getElem?_cons_zero]; go_simp; all_goals (with_reducible rfl))
            try simp only [Act.put, List.setIfInBounds_toArray, List.set_cons_zero, List.set_cons_succ]
            refine hk_take (i := 9) (d := some 21) (v := ?_) (by kernel_rfl) (by kernel_rfl) (by kernel_rfl) (by kernel_rfl) (fun _ _ _ h => h) (by kernel_rfl) ?hy (by assumption) ?_
            case hy => (intro w hSw; (try dsimp only at hSw); simp only [List.getElem?_toArray, List.getElem?_cons_succ, List.getElem?_cons_zero]; go_simp; all_goals (with_reducible rfl))
            try simp only [Act.put, List.setIfInBounds_toArray, List.set_cons_zero, List.set_cons_succ]
            refine hk_take (i := 10) (d := some 22) (v := ?_) (by kernel_rfl) (by kernel_rfl) (by kernel_rfl) (by kernel_rfl) (fun _ _ _ h => h) (by kernel_rfl) ?hy (by assumption) ?_
            case hy => (intro w hSw; (try dsimp only at hSw); simp only [List.getElem?_toArray, List.getElem?_cons_succ, List.getElem?_cons_zero]; go_simp; all_goals (with_reducible rfl))
            try simp only [Act.put, List.setIfInBounds_toArray, List.set_cons_zero, List.set_cons_succ]
            refine hk_take (i := 11) (d := some 23) (v := ?_) (by kernel_rfl) (by kernel_rfl) (by kernel_rfl) (by kernel_rfl) (fun _ _ _ h => h) (by kernel_rfl) ?hy (by assumption) ?_
            case hy => (intro w hSw; (try dsimp only at hSw); simp only [List.getElem?_toArray, List.getElem?_cons_succ, List.getElem?_cons_zero]; go_simp; all_goals (with_reducible rfl))
            try simp only [Act.put, List.setIfInBounds_toArray, List.set_cons_zero, List.set_cons_succ]
            refine hk_take (i := 12) (d := some 24) (v := ?_) (by kernel_rfl) (by kernel_rfl) (by kernel_rfl) (by kernel_rfl) (fun _ _ _ h => h) (by kernel_rfl) ?hy (by assumption) ?_
            case hy => (intro w hSw; (try dsimp only at hSw); simp only [List.getElem?_toArray, List.getElem?_cons_succ, List.getElem?_cons_zero]; go_simp; all_goals (with_reducible rfl))
            try simp only [Act.put, List.setIfInBounds_toArray, List.set_cons_zero, List.set_cons_succ]
            refine hk_take (i := 13) (d := some 25) (v := ?_) (by kernel_rfl) (by kernel_rfl) (by kernel_rfl) (by kernel_rfl) (fun _ _ _ h => h) (by kernel_rfl) ?hy (by assumption) ?_
            case hy => (intro w hSw; (try dsimp only at hSw); simp only [List.getElem?_toArray, List.getElem?_cons_succ, List.getElem?_cons_zero]; go_simp; all_goals (with_reducible rfl))
            try simp only [Act.put, List.setIfInBounds_toArray, List.set_cons_zero, List.set_cons_succ]
            refine hk_take (i := 14) (d := some 26) (v := ?_) (by kernel_rfl) (by kernel_rfl) (by kernel_rfl) (by kernel_rfl) (fun _ _ _ h => h) (by kernel_rfl) ?hy (by assumption) ?_
            case hy => (intro w hSw; (try dsimp only at hSw); simp only [List.getElem?_toArray, List.getElem?_cons_succ, List.getElem?_cons_zero]; go_simp; all_goals (with_reducible rfl))
            try simp only [Act.put, List.setIfInBounds_toArray, List.set_cons_zero, List.set_cons_succ]
            refine hk_take (i := 15) (d := some 27) (v := ?_) (by kernel_rfl) (by kernel_rfl) (by kernel_rfl) (by kernel_rfl) (fun _ _ _ h => h) (by kernel_rfl) ?hy (by assumption) ?_
            case hy => (intro w hSw; (try dsimp only at hSw); simp only [List.getElem?_toArray, List.getElem?_cons_succ, List.getElem?_cons_zero]; go_simp; all_goals (with_reducible rfl))
            try simp only [Act.put, List.setIfInBounds_toArray, List.set_cons_zero, List.set_cons_succ]
            refine hk_take (i := 16) (d := some 28) (v := ?_) (by kernel_rfl) (by kernel_rfl) (by kernel_rfl) (by kernel_rfl) (fun _ _ _ h => h) (by kernel_rfl) ?hy (by assumption) ?_
            case hy => (intro w hSw; (try dsimp only at hSw); simp only [List.getElem?_toArray, List.getElem?_cons_succ, List.getElem?_cons_zero]; go_simp; all_goals (with_reducible rfl))
            try simp only [Act.put, List.setIfInBounds_toArray, List.set_cons_zero, List.set_cons_succ]
            refine hk_skip (i := 17) (d := some 29) (by kernel_rfl) (by kernel_rfl) (by kernel_rfl) (by kernel_rfl) (fun _ _ _ h => h) (by kernel_rfl) (by assumption) ?_
            try simp only [Act.put, List.setIfInBounds_toArray, List.set_cons_zero, List.set_cons_succ]
            refine hk_skip (i := 18) (d := some 30) (by kernel_rfl) (by kernel_rfl) (by kernel_rfl) (by kernel_rfl) (fun _ _ _ h => h) (by kernel_rfl) (by assumption) ?_
            try simp only [Act.put, List.setIfInBounds_toArray, List.set_cons_zero, List.set_cons_succ]
            refine hk_skip (i := 19) (d := some 31) (by kernel_rfl) (by kernel_rfl) (by kernel_rfl) (by kernel_rfl) (fun _ _ _ h => h) (by kernel_rfl) (by assumption) ?_
            try simp only [Act.put, List.setIfInBounds_toArray, List.set_cons_zero, List.set_cons_succ]
            refine hk_skip (i := 20) (d := some 32) (by kernel_rfl) (by kernel_rfl) (by kernel_rfl) (by kernel_rfl) (fun _ _ _ h => h) (by kernel_rfl) (by assumption) ?_
            try simp only [Act.put, List.setIfInBounds_toArray, List.set_cons_zero, List.set_cons_succ]
            refine hk_skip (i := 21) (d := some 33) (by kernel_rfl) (by kernel_rfl) (by kernel_rfl) (by kernel_rfl) (fun _ _ _ h => h) (by kernel_rfl) (by assumption) ?_
            try simp only [Act.put, List.setIfInBounds_toArray, List.set_cons_zero, List.set_cons_succ]
            refine hk_skip (i := 22) (d := some 34) (by kernel_rfl) (by kernel_rfl) (by kernel_rfl) (by kernel_rfl) (fun _ _ _ h => h) (by kernel_rfl) (by assumption) ?_
            try simp only [Act.put, List.setIfInBounds_toArray, List.set_cons_zero, List.set_cons_succ]
            refine hk_skip (i := 23) (d := some 35) (by kernel_rfl) (by kernel_rfl) (by kernel_rfl) (by kernel_rfl) (fun _ _ _ h => h) (by kernel_rfl) (by assumption) ?_
            try simp only [Act.put, List.setIfInBounds_toArray, List.set_cons_zero, List.set_cons_succ]
            refine hk_skip (i := 24) (d := some 36) (by kernel_rfl) (by kernel_rfl) (by kernel_rfl) (by kernel_rfl) (fun _ _ _ h => h) (by kernel_rfl) (by assumption) ?_
            try simp only [Act.put, List.setIfInBounds_toArray, List.set_cons_zero, List.set_cons_succ]
            refine hk_skip (i := 25) (d := some 37) (by kernel_rfl) (by kernel_rfl) (by kernel_rfl) (by kernel_rfl) (fun _ _ _ h => h) (by kernel_rfl) (by assumption) ?_
            try simp only [Act.put, List.setIfInBounds_toArray, List.set_cons_zero, List.set_cons_succ]
            refine hk_skip (i := 26) (d := some 38) (by kernel_rfl) (by kernel_rfl) (by kernel_rfl) (by kernel_rfl) (fun _ _ _ h => h) (by kernel_rfl) (by assumption) ?_
            try simp only [Act.put, List.setIfInBounds_toArray, List.set_cons_zero, List.set_cons_succ]
            refine hk_skip (i := 27) (d := some 39) (by kernel_rfl) (by kernel_rfl) (by kernel_rfl) (by kernel_rfl) (fun _ _ _ h => h) (by kernel_rfl) (by assumption) ?_
            try simp only [Act.put, List.setIfInBounds_toArray, List.set_cons_zero, List.set_cons_succ]
            refine hk_skip (i := 28) (d := some 40) (by kernel_rfl) (by kernel_rfl) (by kernel_rfl) (by kernel_rfl) (fun _ _ _ h => h) (by kernel_rfl) (by assumption) ?_
            try simp only [Act.put, List.setIfInBounds_toArray, List.set_cons_zero, List.set_cons_succ]
            refine hk_take (i := 29) (d := some 41) (v := ?_) (by kernel_rfl) (by kernel_rfl) (by kernel_rfl) (by kernel_rfl) (fun _ _ _ h => h) (by kernel_rfl) ?hy (by assumption) ?_
            case hy => (intro w hSw; (try dsimp only at hSw); simp only [List.getElem?_toArray, List.getElem?_cons_succ, List.getElem?_cons_zero]; go_simp; all_goals (with_reducible rfl))
            try simp only [Act.put, List.setIfInBounds_toArray, List.set_cons_zero, List.set_cons_succ]
            refine wpAnyH_done (by kernel_rfl) ?_ _
            go_wp2_with fail
            have HbC := Lib.hid (then_bel HbB.out (s3_bel hH2).out)
            go_ret
            rw [Hr.out]
            exact ⟨rfl, HbC.out⟩
    · obtain rfl : n = m := by omega
      have Hr : Hid (mayL l = decide ((n : Int) ≤ 500)) := Lib.hid (by rw [may_end (by rw [Hlen.out]; exact Hok.out), decide_eq_decide, Hlen.out]; omega)
      go_wp2_with fail
      go_ret
      rw [Hr.out]
      exact ⟨rfl, Hb.out⟩
end Go.Proofs.YthjcifokmcbaoaaGreatDoor.st
/- package step's place: where the pair of a table and a key lies, or -1. -/
namespace Go.Proofs.YthjcifokmcbaoaaGreatDoor.st
open Go.ChangeShapes Go.WideShapes Go.ChangeAt Go.RowKit gl

theorem idxF_none (p : Option Addr) (c : Nat) (g : Nat) (lb : Array Value) (w : World) : Calls Tryz.prog 172 #[.slice p 0 c, .func (.func g) #[] lb] w fun e w' => e = .returned (.int .i64 (-1)) ∧ w = w' := by
  go_enter Tryz.func172, Tryz.ntmps172
  go_wp2_with fail
  refine wp_loop_rounds 1 ?_
  rw [rounds_succ]
  go_wp2_with fail
  go_ret
  exact ⟨rfl, rfl⟩
/-- The library's search for a pair, of any slice. -/
theorem idx_any (f : Pr → Bool) (g : Nat) (lb : Array Value) (eg : ∀ args w, (callFunc g args).run Tryz.prog w = .ok (.enter g args) w) (p : Option Addr) (m c : Nat) (l : List Pr) (hm : m ≤ 4294967295) (w : World) (h : Prs w (.slice p m c) l)
    (hp : ∀ (W : World) (x : Pr), Below w.heap.size w W → Calls Tryz.prog g (#[.agg #[.string (B x.table), .string (B x.key), .string (B x.value)]] ++ lb) W fun e w' => e = .returned (.bool (f x)) ∧ Below w.heap.size w w') :
    Calls Tryz.prog 172 #[.slice p m c, .func (.func g) #[] lb] w fun e w' => e = .returned (.int .i64 (idxI (l.findIdx? f))) ∧ Below w.heap.size w w' := by
  obtain ⟨hlen, hmc, hptr⟩ := h.ptr
  rcases Nat.eq_zero_or_pos m with h0 | h0
  · subst h0
    obtain rfl : l = [] := List.length_eq_zero_iff.1 hlen
    refine (idxF_none p c g lb w).mono ?_
    rintro e w' ⟨rfl, rfl⟩
    exact ⟨rfl, Below.refl _ _⟩
  · obtain ⟨b, o, rfl, hb⟩ := hptr h0
    refine (AnyQ.slices_IndexFunc Tryz.idxPr 3 Tryz.isAgg57 Tryz.sizeOf57 prC prC_len f g lb eg b o m c l w hp (by omega) (by omega) hb (fun j hj i v hv => ?_)).mono ?_
    · rw [getElem!_pos l j hj] at hv
      have := h.cell (List.getElem?_eq_getElem hj) hv
      rw [Nat.add_assoc]
      exact this
    · rintro e w' ⟨rfl, hb'⟩
      refine ⟨?_, hb'⟩
      have ht : l.take m = l := by rw [← hlen]; exact List.take_length
      rw [ht]
      have hi : ∀ (r : List Pr) (i : Nat), Lib.idxByFrom (fun _ y => f y) default r i = match r.findIdx? f with | some k => ((i + k : Nat) : Int) | none => -1 := by
        intro r
        induction r with
        | nil => intro i; rfl
        | cons y r ih =>
          intro i
          rw [Lib.idxByFrom, List.findIdx?_cons]
          cases hy : f y with
          | true => simp
          | false =>
            rw [if_neg (by simp), if_neg (by simp), ih (i + 1)]
            cases r.findIdx? f with
            | none => rfl
            | some k => show ((i + 1 + k : Nat) : Int) = ((i + (k + 1) : Nat) : Int); congr 1; omega
      have hi0 : Lib.idxBy (fun _ y => f y) l default = idxI (l.findIdx? f) := by
        rw [Lib.idxBy, hi l 0]
        unfold idxI
        cases l.findIdx? f with
        | none => rfl
        | some k => simp
      rw [hi0]
set_option maxHeartbeats 1000000 in
theorem place1_any (t k : ByteArray) (x : Pr) (bt bk : Nat) (w : World) (h1 : w.cell? ⟨bt, 0, none⟩ = some (.string t)) (h2 : w.cell? ⟨bk, 0, none⟩ = some (.string k)) :
    Calls Tryz.prog 173 #[.agg #[.string (B x.table), .string (B x.key), .string (B x.value)], .pointer (some ⟨bt, 0, none⟩), .pointer (some ⟨bk, 0, none⟩)] w fun e w' => e = .returned (.bool (isAt t.data.toList k.data.toList x)) ∧ Below w.heap.size w w' := by
  have e1 : ((B x.table).toList == t.toList) = decide (x.table = t.data.toList) := by
    by_cases h : x.table = t.data.toList
    · rw [decide_eq_true h]; exact seq_true (by rw [h, B_of])
    · rw [decide_eq_false h]; exact seq_false (fun e => h (by rw [← e, B_list]))
  have e2 : ((B x.key).toList == k.toList) = decide (x.key = k.data.toList) := by
    by_cases h : x.key = k.data.toList
    · rw [decide_eq_true h]; exact seq_true (by rw [h, B_of])
    · rw [decide_eq_false h]; exact seq_false (fun e => h (by rw [← e, B_list]))
  have Hr : Hid (isAt t.data.toList k.data.toList x = (decide (x.table = t.data.toList) && decide (x.key = k.data.toList))) := Lib.hid rfl
  have Hb := Lib.hid ((Below.refl w.heap.size w).alloc (Nat.le_refl _) (.cells #[.string (B x.table), .string (B x.key), .string (B x.value)] 57))
  have hlt := World.block_lt_of_cell? _ _ h1
  have hlk := World.block_lt_of_cell? _ _ h2
  generalize isAt t.data.toList k.data.toList x = r at *
  generalize decide (x.table = t.data.toList) = d1 at *
  generalize decide (x.key = k.data.toList) = d2 at *
  generalize B x.table = x1 at *
  generalize B x.key = x2 at *
  generalize B x.value = x3 at *
  have q1 : (w.alloc (.cells #[.string x1, .string x2, .string x3] 57)).cell? ⟨bt, 0, none⟩ = some (.string t) := (Hb.out.cell (p := ⟨bt, 0, none⟩) hlt).trans h1
  have q2 : (w.alloc (.cells #[.string x1, .string x2, .string x3] 57)).cell? ⟨bk, 0, none⟩ = some (.string k) := (Hb.out.cell (p := ⟨bk, 0, none⟩) hlk).trans h2
  cases d1
  · go_enter Tryz.func173, Tryz.ntmps173
    go_wp2_with fail
    go_ret
    exact ⟨by rw [Hr.out]; rfl, Hb.out⟩
  · go_enter Tryz.func173, Tryz.ntmps173
    go_wp2_with fail
    go_ret
    exact ⟨by rw [Hr.out]; simp, Hb.out⟩
theorem place_any (p : Option Addr) (m c : Nat) (l : List Pr) (t k : ByteArray) (hm : m ≤ 4294967295) (w : World) (h : Prs w (.slice p m c) l) :
    Calls Tryz.prog 117 #[.slice p m c, .string t, .string k] w fun e w' => e = .returned (.int .i64 (idxI (idxL l t.data.toList k.data.toList))) ∧ Below w.heap.size w w' := by
  obtain ⟨wA, hA⟩ : ∃ wA, wA = (w.alloc (.cells #[.string t] 9)).alloc (.cells #[.string k] 9) := ⟨_, rfl⟩
  have HbA : Hid (Below w.heap.size w wA) := Lib.hid (by rw [hA]; exact ((Below.refl _ _).alloc (Nat.le_refl _) _).alloc (by simp) _)
  have c1 : wA.cell? ⟨w.heap.size, 0, none⟩ = some (.string t) := by rw [hA, World.cell?_alloc_lt _ _ _ (by simp)]; exact cell_in (o := 0) (heap_alloc_new w _)
  have c2 : wA.cell? ⟨w.heap.size + 1, 0, none⟩ = some (.string k) := by
    have := heap_alloc_new (w.alloc (.cells #[.string t] 9)) (.cells #[.string k] 9)
    rw [← hA] at this
    exact cell_in (o := 0) (by simpa using this)
  have HI := Lib.hid (idx_any (isAt t.data.toList k.data.toList) 173 #[.pointer (some ⟨w.heap.size, 0, none⟩), .pointer (some ⟨w.heap.size + 1, 0, none⟩)] (enters_of Tryz.func173 (by kernel_rfl) rfl) p m c l hm wA (h.later HbA.out) (fun W x hb =>
    (place1_any t k x _ _ W ((hb.cell (p := ⟨w.heap.size, 0, none⟩) (World.block_lt_of_cell? _ _ c1)).trans c1) ((hb.cell (p := ⟨w.heap.size + 1, 0, none⟩) (World.block_lt_of_cell? _ _ c2)).trans c2)).mono fun e w' h => ⟨h.1, hb.trans (h.2.mono hb.size)⟩))
  have Hr : Hid (idxI (idxL l t.data.toList k.data.toList) = idxI (l.findIdx? (isAt t.data.toList k.data.toList))) := Lib.hid rfl
  have HA := Lib.hid hA
  clear h hA c1 c2
  generalize idxI (idxL l t.data.toList k.data.toList) = r at *
  go_enter Tryz.func117, Tryz.ntmps117
  go_wp2_with fail
  rw [← HA.out]
  refine HI.out.mono ?_
  rintro e w' ⟨rfl, hb⟩
  have Hb := Lib.hid hb
  go_wp2_with fail
  go_ret
  rw [Hr.out]
  exact ⟨rfl, then_bel HbA.out Hb.out⟩
end Go.Proofs.YthjcifokmcbaoaaGreatDoor.st
/- slices.Clone of pairs, and whether a table has a pair (package step's tabled$1). -/
namespace Go.Proofs.YthjcifokmcbaoaaGreatDoor.st
open Go.ChangeShapes Go.WideShapes Go.ChangeAt Go.RowKit gl

set_option maxRecDepth 100000 in
theorem clone_any (p : Option Addr) (m c : Nat) (l : List Pr) (hm : m ≤ 4294967295) (w : World) (h : Prs w (.slice p m c) l) :
    Calls Tryz.prog 72 #[.slice p m c] w fun e w' => ∃ v, e = .returned v ∧ NewPrs w.heap.size w' v l ∧ Below w.heap.size w w' := by
  obtain ⟨hlen, hmc, hptr⟩ := h.ptr
  rcases Nat.eq_zero_or_pos m with h0 | h0
  · subst h0
    obtain rfl : l = [] := List.length_eq_zero_iff.1 hlen
    cases p with
    | none =>
      refine (AnyE.slices_Clone_nil Tryz.clonePr 0 c w).mono ?_
      rintro e w' ⟨rfl, rfl⟩
      exact ⟨_, rfl, .inl ⟨rfl, rfl⟩, Below.refl _ _⟩
    | some a =>
      have hi := infoPr
      have q22 : ∀ (w : World) (a : Option Addr) (n c n' c' : Nat), (binOp .eql 44 (.slice a n c) (.slice none n' c')).run Tryz.prog w = .ok (.bool a.isNone) w := fun w a n c n' c' => Lib.run_eql_slice_nil w _ _ a n c n' c' Tryz.clonePr.t22
      have qs : (some a).isNone = false := rfl
      go_enter Tryz.func72, Tryz.ntmps72
      go_wp2_with fail
      go_ret
      exact ⟨_, rfl, rw.own_new prC_len (by decide) (l := []) (World.ownsRow_made w #[] 0 (Nat.le_refl _) (Nat.zero_le _) (by simp)), (Below.refl _ _).alloc (Nat.le_refl _) _⟩
  · obtain ⟨b, o, rfl, hb⟩ := hptr h0
    have hi := infoPr
    obtain ⟨i0, hi0, hi1⟩ := Option.map_eq_some_iff.1 hi
    simp only [Prod.mk.injEq] at hi1
    obtain ⟨hz, hs, hby⟩ := hi1
    refine (AnyE.slices_Clone Tryz.clonePr i0 _ 3 48 hi0 hz hs hby rfl (by decide) Tryz.sizeOf57 b o m c (prsC l) w (by rw [rw.flat_len prC_len, hlen]) (by unfold maxLen; omega) (by omega) (fun j u hu => ?_) (fun u hu => rw.flat_one prC_one l u hu)).mono ?_
    · have hj : j < l.length * 3 := by have := (List.getElem?_eq_some_iff.1 hu).1; rwa [rw.flat_len prC_len] at this
      have hq : j / 3 < l.length := by omega
      have hr : j % 3 < (prC l[j / 3]).length := by rw [prC_len]; omega
      have h2 := rw.flat_at prC_len l (j / 3) _ (j % 3) _ (List.getElem?_eq_getElem hq) (List.getElem?_eq_getElem hr)
      have he : j / 3 * 3 + j % 3 = j := by omega
      rw [he] at h2
      have h3 := h.cell (List.getElem?_eq_getElem hq) (List.getElem?_eq_getElem hr)
      rw [he] at h3
      rw [h3]
      rw [← h2]; exact hu
    · rintro e w' ⟨v, rfl, hv, _, hb'⟩
      exact ⟨v, rfl, rw.own_new prC_len (by decide) hv, hb'⟩
/-- The library's question whether a list holds such a pair. -/
theorem has_none (p : Option Addr) (c : Nat) (g : Nat) (lb : Array Value) (w : World) : Calls Tryz.prog 175 #[.slice p 0 c, .func (.func g) #[] lb] w fun e w' => e = .returned (.bool false) ∧ w = w' := by
  have HI := Lib.hid (idxF_none p c g lb w)
  go_enter Tryz.func175, Tryz.ntmps175
  go_wp2_with fail
  refine HI.out.mono ?_
  rintro e w' ⟨rfl, rfl⟩
  go_wp2_with fail
  go_ret
  exact ⟨rfl, rfl⟩
theorem has_any (f : Pr → Bool) (g : Nat) (lb : Array Value) (eg : ∀ args w, (callFunc g args).run Tryz.prog w = .ok (.enter g args) w) (p : Option Addr) (m c : Nat) (l : List Pr) (hm : m ≤ 4294967295) (w : World) (h : Prs w (.slice p m c) l)
    (hp : ∀ (W : World) (x : Pr), Below w.heap.size w W → Calls Tryz.prog g (#[.agg #[.string (B x.table), .string (B x.key), .string (B x.value)]] ++ lb) W fun e w' => e = .returned (.bool (f x)) ∧ Below w.heap.size w w') :
    Calls Tryz.prog 175 #[.slice p m c, .func (.func g) #[] lb] w fun e w' => e = .returned (.bool (l.any f)) ∧ Below w.heap.size w w' := by
  obtain ⟨hlen, hmc, hptr⟩ := h.ptr
  rcases Nat.eq_zero_or_pos m with h0 | h0
  · subst h0
    obtain rfl : l = [] := List.length_eq_zero_iff.1 hlen
    refine (has_none p c g lb w).mono ?_
    rintro e w' ⟨rfl, rfl⟩
    exact ⟨rfl, Below.refl _ _⟩
  · obtain ⟨b, o, rfl, hb⟩ := hptr h0
    refine (AnyQ.slices_ContainsFunc Tryz.hasPr 3 Tryz.isAgg57 Tryz.sizeOf57 prC prC_len f g lb eg b o m c l w hp (by omega) (by omega) hb (fun j hj i v hv => ?_)).mono ?_
    · rw [getElem!_pos l j hj] at hv
      have := h.cell (List.getElem?_eq_getElem hj) hv
      rw [Nat.add_assoc]
      exact this
    · rintro e w' ⟨rfl, hb'⟩
      refine ⟨?_, hb'⟩
      have ht : l.take m = l := by rw [← hlen]; exact List.take_length
      rw [ht]
def inTab (t : List UInt8) (p : Pr) : Bool := decide (p.table = t)
set_option maxHeartbeats 1000000 in
theorem tab11_any (t : ByteArray) (x : Pr) (bt : Nat) (w : World) (h1 : w.cell? ⟨bt, 0, none⟩ = some (.string t)) :
    Calls Tryz.prog 176 #[.agg #[.string (B x.table), .string (B x.key), .string (B x.value)], .pointer (some ⟨bt, 0, none⟩)] w fun e w' => e = .returned (.bool (inTab t.data.toList x)) ∧ Below w.heap.size w w' := by
  have e1 : ((B x.table).toList == t.toList) = decide (x.table = t.data.toList) := by
    by_cases h : x.table = t.data.toList
    · rw [decide_eq_true h]; exact seq_true (by rw [h, B_of])
    · rw [decide_eq_false h]; exact seq_false (fun e => h (by rw [← e, B_list]))
  have Hr : Hid (inTab t.data.toList x = decide (x.table = t.data.toList)) := Lib.hid rfl
  have Hb := Lib.hid ((Below.refl w.heap.size w).alloc (Nat.le_refl _) (.cells #[.string (B x.table), .string (B x.key), .string (B x.value)] 57))
  have hlt := World.block_lt_of_cell? _ _ h1
  generalize inTab t.data.toList x = r at *
  generalize decide (x.table = t.data.toList) = d1 at *
  generalize B x.table = x1 at *
  generalize B x.key = x2 at *
  generalize B x.value = x3 at *
  have q1 : (w.alloc (.cells #[.string x1, .string x2, .string x3] 57)).cell? ⟨bt, 0, none⟩ = some (.string t) := (Hb.out.cell (p := ⟨bt, 0, none⟩) hlt).trans h1
  go_enter Tryz.func176, Tryz.ntmps176
  go_wp2_with fail
  go_ret
  exact ⟨by rw [Hr.out]; rfl, Hb.out⟩
set_option maxHeartbeats 1000000 in
theorem tab1_any (t : ByteArray) (bl : Nat) (p : Option Addr) (m c : Nat) (l : List Pr) (hm : m ≤ 4294967295) (w : World) (h1 : w.cell? ⟨bl, 0, none⟩ = some (.slice p m c)) (h : Prs w (.slice p m c) l) :
    Calls Tryz.prog 174 #[.string t, .pointer (some ⟨bl, 0, none⟩)] w fun e w' => e = .returned (.bool (l.any (inTab t.data.toList))) ∧ Below w.heap.size w w' := by
  obtain ⟨wA, hA⟩ : ∃ wA, wA = w.alloc (.cells #[.string t] 9) := ⟨_, rfl⟩
  have HbA : Hid (Below w.heap.size w wA) := Lib.hid (by rw [hA]; exact (Below.refl _ _).alloc (Nat.le_refl _) _)
  have c1 : wA.cell? ⟨w.heap.size, 0, none⟩ = some (.string t) := by rw [hA]; exact cell_in (o := 0) (heap_alloc_new w _)
  have c2 : (w.alloc (.cells #[.string t] 9)).cell? ⟨bl, 0, none⟩ = some (.slice p m c) := by rw [← hA]; exact (HbA.out.cell (p := ⟨bl, 0, none⟩) (World.block_lt_of_cell? _ _ h1)).trans h1
  have HI := Lib.hid (has_any (inTab t.data.toList) 176 #[.pointer (some ⟨w.heap.size, 0, none⟩)] (enters_of Tryz.func176 (by kernel_rfl) rfl) p m c l hm wA (h.later HbA.out) (fun W x hb =>
    (tab11_any t x _ W ((hb.cell (p := ⟨w.heap.size, 0, none⟩) (World.block_lt_of_cell? _ _ c1)).trans c1)).mono fun e w' h => ⟨h.1, hb.trans (h.2.mono hb.size)⟩))
  have HA := Lib.hid hA
  clear h hA c1
  generalize l.any (inTab t.data.toList) = r at *
  go_enter Tryz.func174, Tryz.ntmps174
  go_wp2_with fail
  rw [← HA.out]
  refine HI.out.mono ?_
  rintro e w' ⟨rfl, hb⟩
  have Hb := Lib.hid hb
  go_wp2_with fail
  go_ret
  exact ⟨rfl, then_bel HbA.out Hb.out⟩
end Go.Proofs.YthjcifokmcbaoaaGreatDoor.st
