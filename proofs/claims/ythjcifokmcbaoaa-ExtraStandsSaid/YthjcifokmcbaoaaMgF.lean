/- Laws and contracts on which the statement rests, part F: each text says what it proves, and its conditions. -/
import Derived.Test.YthjcifokmcbaoaaMgE
import Derived.Test.YthjcifokmcbaoaaMgD
import Derived.Test.YthjcifokmcbaoaaMgA
/- The document of layer 19: Moves, Index: what they give. No conditions. -/
namespace Go.Proofs.Ythjcifokmcbaoaa.st
open Go.ChangeShapes Go.WideShapes Go.ChangeAt Go.RowKit gl ls

/-- A step's parts, in plain data. -/
def spC0 (s : Sp) : Int × List UInt8 × List UInt8 × List UInt8 × List UInt8 := (s.kind, s.table, s.key, s.to, s.text)
theorem spC0_inj : ∀ {l l' : List Sp}, l.map spC0 = l'.map spC0 → l = l'
  | [], [], _ => rfl
  | [], _ :: _, h => by cases h
  | _ :: _, [], h => by cases h
  | ⟨_, _, _, _, _⟩ :: r, ⟨_, _, _, _, _⟩ :: r', h => by
    simp only [List.map_cons, List.cons.injEq, spC0, Prod.mk.injEq] at h
    obtain ⟨⟨rfl, rfl, rfl, rfl, rfl⟩, h2⟩ := h
    rw [spC0_inj h2]
/-- The table that a move speaks of first. -/
def tabN (m : Mv) : List UInt8 := match m.steps with
  | s :: _ => s.table
  | [] => []
def idxB (t : List UInt8) (k : Nat) : List UInt8 := ((((bareL.take k).filter fun m => spkM m t).getLast?).map (·.id)).getD []
theorem idxB_step {t : List UInt8} {k : Nat} {m : Mv} (h : bareL[k]? = some m) : idxB t (k + 1) = if spkM m t = true then m.id else idxB t k := by
  unfold idxB
  rw [take_at h, List.filter_append]
  cases hs : spkM m t <;> simp [hs]
theorem bare_at : ∀ i, i < 5 → ∀ m, bareL[i]? = some m → ∀ m', extraL[i]? = some m' → m.id = m'.id ∧ m.steps = m'.steps ∧ m.needs = [] ∧ m.steps.length = 1 ∧ m'.needs = needTo baseL (tabN m) 6 ++ needTo bareL (tabN m) i := by
  have h : ((List.range 5).all fun i => match bareL[i]?, extraL[i]? with
    | some m, some m' => decide (m.id = m'.id) && decide (m.steps.map spC0 = m'.steps.map spC0) && decide (m.needs = []) && decide (m.steps.length = 1) && decide (m'.needs = needTo baseL (tabN m) 6 ++ needTo bareL (tabN m) i)
    | _, _ => true) = true := by decide +kernel
  intro i hi m hm m' hm'
  have h1 := List.all_eq_true.1 h i (List.mem_range.2 hi)
  rw [hm, hm'] at h1
  simp only [Bool.and_eq_true, decide_eq_true_eq] at h1
  obtain ⟨⟨⟨⟨a, b⟩, c⟩, d⟩, e⟩ := h1
  exact ⟨a, spC0_inj b, c, d, e⟩
theorem bare_stepsB : (bareL.all fun m => decide (1 ≤ m.steps.length) && decide (m.steps.length ≤ 1000)) = true := by decide +kernel
theorem bare_steps : ∀ m ∈ bareL, 1 ≤ m.steps.length ∧ m.steps.length ≤ 1000 := by
  intro m hm
  have := List.all_eq_true.1 bare_stepsB m hm
  simpa using this
/-- A row of moves in blocks from C on, each in blocks from M on. -/
def RowY (C M : Nat) (w : World) (v : Value) (R : List MvR) (l : List Mv) : Prop := w.ownsRow C 31 3 v R.length (rw.flat mvC R) ∧ R.length = l.length ∧ ∀ (i : Nat) (r : MvR) (m : Mv), R[i]? = some r → l[i]? = some m → Goes M w r m
theorem RowY.later {C M : Nat} {w w' : World} {v : Value} {R : List MvR} {l : List Mv} (h : RowY C M w v R l) (hb : Below w.heap.size w w') : RowY C M w' v R l := ⟨own_laterX h.1 hb, h.2.1, fun i r m hr hm => (h.2.2 i r m hr hm).later hb⟩
theorem RowY.new {C M : Nat} {w : World} {v : Value} {R : List MvR} {l : List Mv} (h : RowY C M w v R l) (hM : M ≤ C) : NewMv M w v R l := ⟨(rw.own_new mvC_len (by decide) h.1).mono hM, h.2.1, h.2.2⟩
theorem RowY.push {C M : Nat} {w w' : World} {v v' : Value} {R : List MvR} {l : List Mv} {r : MvR} {m : Mv} (h : RowY C M w v R l) (hg : Goes M w r m) (ho : w'.ownsRow C 31 3 v' (R.length + 1) (rw.flat mvC R ++ mvC r)) (hgr : w.grownBy w' v.ownBlock) : RowY C M w' v' (R ++ [r]) (l ++ [m]) := by
  refine ⟨?_, ?_, ?_⟩
  · rw [rw.flat_snoc, List.length_append]
    exact ho
  · rw [List.length_append, List.length_append, h.2.1]
    rfl
  · intro i r' m' hr' hm'
    by_cases hi : i < R.length
    · rw [List.getElem?_append_left hi] at hr'
      rw [List.getElem?_append_left (by rw [← h.2.1]; exact hi)] at hm'
      exact goes_blk (h.2.2 i r' m' hr' hm') (Blk.of_own h.1) hgr
    · rw [List.getElem?_append_right (by omega)] at hr'
      rw [List.getElem?_append_right (by rw [← h.2.1]; omega), ← h.2.1] at hm'
      have h0 := lt_get hr'
      simp only [List.length_singleton] at h0
      rw [show i - R.length = 0 by omega] at hr' hm'
      obtain rfl := Option.some.inj hr'
      obtain rfl := Option.some.inj hm'
      exact goes_blk hg (Blk.of_own h.1) hgr
theorem own_low {w : World} {b C n size o : Nat} {v : Value} {xs : List Value} {e : TypeId} (ho : w.ownsRow C e size v n xs) (hb : b < C) (u : Value) : (w.setCell ⟨b, o, none⟩ u).ownsRow C e size v n xs := by
  obtain ⟨h0, h⟩ := ho
  refine ⟨h0, ?_⟩
  rcases h with h | ⟨g, cap, cur, e, h1, h2, h3⟩
  · exact .inl h
  · exact .inr ⟨g, cap, cur, e, h1, (heap_setCell_other w ⟨b, o, none⟩ g u (by show g ≠ b; omega)).trans h2, h3⟩
theorem egSpR (args : Array Value) (w : World) : (callFunc 19 args).run Try.prog w = .ok (.enter 19 args) w := enters Try.func19 (by kernel_rfl) (by kernel_rfl) args w
set_option maxHeartbeats 4000000 in
set_option maxRecDepth 100000 in
theorem refIndex19_any (t : List UInt8) (w : World) : Calls Try.prog 9 #[.string (B t)] w fun e w' => e = .returned (.string (B (idxB t 5))) ∧ Below w.heap.size w w' := by
  obtain ⟨tb, htb⟩ : ∃ tb, tb = B t := ⟨_, rfl⟩
  rw [← htb]
  have Htb := Lib.hid htb
  clear htb
  go_enter Try.func9, Try.ntmps9
  go_wp2_with fail
  refine (bare_any w).mono ?_
  rintro e w1 ⟨⟨v1, R1, rfl, h1, _⟩, hb1⟩
  obtain ⟨p1, c1, rfl⟩ := h1.1.form
  have hl1 : R1.length = 5 := h1.2.1
  obtain ⟨bL, oL, rfl, hbL⟩ := (h1.1.rw mvC_len).ptr.2.2 (by omega)
  rw [hl1] at h1 ⊢
  have H1 := Lib.hid h1
  have HB1 := Lib.hid hb1
  clear h1 hb1
  go_wp2_with fail
  go_loopw [4, 5] (fun xv kv wx => ∃ (k : Nat) (v : Value), k ≤ 5 ∧ kv = .int .i64 k ∧ v = xv ∧ v = .string (B (idxB t k)) ∧ Hid (Below w1.heap.size w1 wx)) (fun _ kv _ => 5 - (intOf kv).toNat)
  case atStart => exact ⟨0, _, by omega, rfl, rfl, rfl, Lib.hid (Below.refl _ _)⟩
  case round =>
    obtain ⟨k, v, hk, rfl, rfl, hv, Hbk⟩ := hrel
    subst hv
    obtain ⟨wX, hwX⟩ : ∃ wX, wX = wr := ⟨_, rfl⟩
    subst hwX
    have hzX := Hbk.out.size
    by_cases hltk : k < 5
    · have hsr := H1.out.later Hbk.out
      obtain ⟨r, hr⟩ : ∃ r, R1[k]? = some r := ⟨_, List.getElem?_eq_getElem (by rw [hl1]; omega)⟩
      obtain ⟨m2, hm2⟩ : ∃ m2, bareL[k]? = some m2 := ⟨_, List.getElem?_eq_getElem (by have : bareL.length = 5 := rfl; omega)⟩
      obtain ⟨l0, l1', l2'⟩ := mv_cells (hsr.1.rw mvC_len) hr
      have hg2 := hsr.2.2 k r m2 hr hm2
      have sp2 := hg2.2.2.rw spC_len
      rw [hg2.1] at l0
      have hnext := idxB_step (t := t) hm2
      obtain ⟨xi2, pn2, nn2, cn2, ps2, ns2, cs2⟩ := r
      simp only [MvR.vn, MvR.vs] at l1' l2' sp2
      have hst2 : ns2 ≤ 4294967295 := by
        rw [← sp2.ptr.1]
        have := (bare_steps m2 (List.mem_of_getElem? hm2)).2; omega
      have HSpk := Lib.hid (speaksR_any m2 t pn2 ps2 nn2 cn2 ns2 cs2 hst2 wX sp2)
      rw [← Htb.out] at HSpk
      have Hnext := Lib.hid hnext
      have hbr : bL < wX.heap.size := by omega
      have hki2 : (k : Int) < 5 := by omega
      have hk5 : (0 : Int) ≤ (k : Int) := by omega
      obtain ⟨nm2, hnm2⟩ : ∃ nm2, nm2 = B m2.id := ⟨_, rfl⟩
      rw [← hnm2] at l0 HSpk
      have Hnm2 := Lib.hid hnm2
      obtain ⟨iv, hiv⟩ : ∃ iv, iv = B (idxB t k) := ⟨_, rfl⟩
      rw [← hiv]
      have Hiv := Lib.hid hiv
      clear hsr hr hg2 sp2 hst2 hnext hm2 hnm2 hiv
      cases hspk : spkM m2 t with
      | false =>
        rw [hspk] at HSpk
        have Hspk := Lib.hid hspk
        clear hspk
        go_wp2_with fail
        refine HSpk.out.mono ?_
        rintro e w7 ⟨rfl, hb7⟩
        have Hb7 := Lib.hid (Hbk.out.trans (hb7.mono hzX))
        clear hb7
        go_wp2_with fail
        go_roundw
        case rel => exact ⟨k + 1, _, by omega, by go_num, rfl, by rw [Hnext.out, Hspk.out, Hiv.out]; rfl, Hb7⟩
        case measure => simp [intOf]; omega
      | true =>
        rw [hspk] at HSpk
        have Hspk := Lib.hid hspk
        clear hspk
        go_wp2_with fail
        refine HSpk.out.mono ?_
        rintro e w7 ⟨rfl, hb7⟩
        have d0 := cell_then l0 hb7
        have Hb7 := Lib.hid (Hbk.out.trans (hb7.mono hzX))
        have hbr7 : bL < w7.heap.size := by have := hb7.size; omega
        clear hb7 l0 l1' l2'
        go_wp2_with fail
        go_roundw
        case rel => exact ⟨k + 1, _, by omega, by go_num, rfl, by rw [Hnext.out, Hspk.out, Hnm2.out]; rfl, Hb7⟩
        case measure => simp [intOf]; omega
    · obtain rfl : k = 5 := by omega
      have HF := Lib.hid (HB1.out.trans (Hbk.out.mono HB1.out.size))
      go_wp2_with fail
      go_ret
      exact ⟨rfl, HF.out⟩
end Go.Proofs.Ythjcifokmcbaoaa.st
/- The document of layer 19: its moves. No conditions. -/
namespace Go.Proofs.Ythjcifokmcbaoaa.st
open Go.ChangeShapes Go.WideShapes Go.ChangeAt Go.RowKit gl ls

set_option maxHeartbeats 16000000 in
set_option maxRecDepth 100000 in
theorem refMoves19_any (w : World) : Calls Try.prog 6 #[] w fun e w' => (∃ v R, e = .returned v ∧ NewMv w.heap.size w' v R extraL) ∧ Below w.heap.size w w' := by
  obtain ⟨i0, hi, hz0, hz1, hz2⟩ := info_parts infoTxX
  obtain ⟨i1, si, sz0, sz1, sz2⟩ := info_parts infoMv
  go_enter Try.func6, Try.ntmps6
  go_wp2_with fail
  refine (base_any w).mono ?_
  rintro e w1 ⟨⟨v1, R1, rfl, h1⟩, hb1⟩
  obtain ⟨p1, c1, rfl⟩ := h1.1.form
  have hl1 : R1.length = 6 := h1.2.1
  obtain ⟨bL, oL, rfl, hbL⟩ := (h1.1.rw mvC_len).ptr.2.2 (by omega)
  rw [hl1] at h1 ⊢
  have H1 := Lib.hid h1
  have HB1 := Lib.hid hb1
  clear h1 hb1
  go_wp2_with fail
  refine (bare_any w1).mono ?_
  rintro e w2 ⟨⟨v2, R2, rfl, h2, hnil2⟩, hb2⟩
  obtain ⟨p2, c2, rfl⟩ := h2.1.form
  have hl2 : R2.length = 5 := h2.2.1
  obtain ⟨bB, oB, rfl, hbB⟩ := (h2.1.rw mvC_len).ptr.2.2 (by omega)
  rw [hl2] at h2 ⊢
  have H2 := Lib.hid h2
  have H12 := Lib.hid (H1.out.later hb2)
  have hzz2 := hb2.size
  have hzz1 := HB1.out.size
  have HB2 := Lib.hid (then_bel HB1.out hb2)
  clear h2 hb2
  go_wp2_with fail
  go_loopw [3, 4] (fun ov iv wr => ∃ (i : Nat) (v : Value) (R : List MvR), i ≤ 5 ∧ iv = .int .i64 i ∧ v = ov ∧ Hid (R.length = i) ∧ Hid (RowY w2.heap.size w.heap.size wr v R (extraL.take i)) ∧ Hid (Below w2.heap.size w2 wr)) (fun _ iv _ => 5 - (intOf iv).toNat)
  case atStart => exact ⟨0, _, [], by omega, rfl, rfl, Lib.hid rfl, Lib.hid ⟨⟨rfl, .inl ⟨rfl, rfl⟩⟩, rfl, fun i r m h => by simp at h⟩, Lib.hid (Below.refl _ _)⟩
  case round =>
    obtain ⟨i, vo, R, hi5, rfl, rfl, HRn, HRow, HBx⟩ := hrel
    obtain ⟨wO, hwO⟩ : ∃ wO, wO = wr := ⟨_, rfl⟩
    subst hwO
    have hzO := HBx.out.size
    have hi50 : (0 : Int) ≤ (i : Int) := by omega
    by_cases hlt : i < 5
    · have hLr := H2.out.later HBx.out
      obtain ⟨x, hx⟩ : ∃ x, R2[i]? = some x := ⟨_, List.getElem?_eq_getElem (by rw [hl2]; exact hlt)⟩
      obtain ⟨m, hm⟩ : ∃ m, bareL[i]? = some m := ⟨_, List.getElem?_eq_getElem (by exact hlt)⟩
      obtain ⟨m', hm'⟩ : ∃ m', extraL[i]? = some m' := ⟨_, List.getElem?_eq_getElem (by exact hlt)⟩
      obtain ⟨k0, k1, k2⟩ := mv_cells (hLr.1.rw mvC_len) hx
      have hg := hLr.2.2 i x m hx hm
      have HG := Lib.hid fun (W : World) (hW : Below w2.heap.size w2 W) => (H2.out.later hW).2.2 i x m hx hm
      obtain ⟨e1, e2, e3, e4, e5⟩ := bare_at i hlt m hm m' hm'
      have sp := hg.2.2.rw spC_len
      rw [hg.1] at k0
      obtain ⟨xi, pn, nn, cn, ps, ns, cs⟩ := x
      simp only [MvR.vn, MvR.vs] at k1 k2 sp
      have hvn : Value.slice pn nn cn = .slice none 0 0 := hnil2 _ (List.mem_of_getElem? hx)
      rw [hvn] at k1
      have hns : ns = 1 := by rw [← sp.ptr.1]; exact e4
      subst hns
      obtain ⟨bs, os, rfl, hbs⟩ := sp.ptr.2.2 (by omega)
      obtain ⟨s, hs⟩ : ∃ s, m.steps[0]? = some s := ⟨_, List.getElem?_eq_getElem (by omega)⟩
      have htab : tabN m = s.table := by
        unfold tabN
        cases hst : m.steps with
        | nil => rw [hst] at hs; cases hs
        | cons a r => rw [hst] at hs; cases hs; rfl
      rw [htab] at e5
      obtain ⟨s0, s1, s2, s3, s4⟩ := sps_cells sp hs
      simp only [Nat.zero_mul, Nat.add_zero] at s1
      obtain ⟨wA, hA⟩ : ∃ wA, wA = wO.alloc (.cells #[.string (B m.id), .slice none 0 0, .slice (some ⟨bs, os, none⟩) 1 cs] 31) := ⟨_, rfl⟩
      have kA : wA.heap[wO.heap.size]? = some (.cells #[.string (B m.id), .slice none 0 0, .slice (some ⟨bs, os, none⟩) 1 cs] 31 (0, 0)) := by rw [hA]; exact heap_alloc_new wO _
      have hbA : Below wO.heap.size wO wA := by rw [hA]; exact (Below.refl _ _).alloc (Nat.le_refl _) _
      have HA := Lib.hid hA
      have HKA := Lib.hid kA
      have HbA := Lib.hid hbA
      have Hs1 := Lib.hid fun (W : World) (hW : Below wO.heap.size wO W) => cell_then s1 hW
      have He1 := Lib.hid e1
      have He2 := Lib.hid e2
      have He5 := Lib.hid e5
      have Hm' := Lib.hid hm'
      have hbLr : bL < wO.heap.size := by omega
      have hbBr : bB < wO.heap.size := by omega
      have hbsr : bs < wO.heap.size := hbs
      have hii : (i : Int) < 5 := by omega
      obtain ⟨nm, hnm⟩ : ∃ nm, nm = B m.id := ⟨_, rfl⟩
      obtain ⟨tb, htb⟩ : ∃ tb, tb = B s.table := ⟨_, rfl⟩
      rw [← hnm] at k0 HA HKA
      rw [← htb] at Hs1
      have Hnm := Lib.hid hnm
      have Htb := Lib.hid htb
      clear hLr hx hm hg sp hvn e1 e2 e3 e4 e5 hs htab s0 s1 s2 s3 s4 hA kA hbA hbs hnm htb hm'
      go_wp2_with fail
      try rw [← HA.out]
      go_loopw [6] (fun kv wx => ∃ (k : Nat) (v : Value), k ≤ 6 ∧ kv = .int .i64 k ∧ Hid (wx.heap[wO.heap.size]? = some (.cells #[.string nm, v, .slice (some ⟨bs, os, none⟩) 1 cs] 31 (0, 0))) ∧ Hid (wx.ownsRow (wO.heap.size + 1) 9 1 v (needTo baseL s.table k).length (rw.flat txC (needTo baseL s.table k))) ∧ Hid (Below wO.heap.size wO wx)) (fun kv _ => 6 - (intOf kv).toNat)
      case atStart => exact ⟨0, _, by omega, rfl, HKA, Lib.hid ⟨rfl, .inl ⟨rfl, rfl⟩⟩, HbA⟩
      case round =>
        clear k0 k1 k2
        obtain ⟨k, v, hk, rfl, HKx, HOk, Hbk⟩ := hrel
        obtain ⟨wX, hwX⟩ : ∃ wX, wX = wr := ⟨_, rfl⟩
        subst hwX
        have hzX : wO.heap.size < wX.heap.size := lt_of_block HKx.out
        have HPX := Lib.hid (HBx.out.trans (Hbk.out.mono hzO))
        by_cases hltk : k < 6
        · have hsr := H12.out.later HPX.out
          obtain ⟨r, hr⟩ : ∃ r, R1[k]? = some r := ⟨_, List.getElem?_eq_getElem (by rw [hl1]; omega)⟩
          obtain ⟨m2, hm2⟩ : ∃ m2, baseL[k]? = some m2 := ⟨_, List.getElem?_eq_getElem (by have : baseL.length = 6 := rfl; omega)⟩
          obtain ⟨l0, l1', l2'⟩ := mv_cells (hsr.1.rw mvC_len) hr
          have hg2 := hsr.2.2 k r m2 hr hm2
          have sp2 := hg2.2.2.rw spC_len
          rw [hg2.1] at l0
          have hnext : (needTo baseL s.table (k + 1)) = if spkM m2 s.table = true then (needTo baseL s.table k) ++ [m2.id] else (needTo baseL s.table k) := need_step (t := s.table) hm2
          have hnl : (needTo baseL s.table k).length ≤ k := need_le _ _ _
          obtain ⟨xi2, pn2, nn2, cn2, ps2, ns2, cs2⟩ := r
          simp only [MvR.vn, MvR.vs] at l1' l2' sp2
          have hst2 : ns2 ≤ 4294967295 := by
            rw [← sp2.ptr.1]
            have := (base_stepsX m2 (List.mem_of_getElem? hm2)).2; omega
          have HSpk := Lib.hid fun (W : World) (hW : Below wX.heap.size wX W) => speaksR_any m2 s.table pn2 ps2 nn2 cn2 ns2 cs2 hst2 W (sp2.later hW)
          rw [← Htb.out] at HSpk
          have Hnext := Lib.hid hnext
          have hbr : bL < wX.heap.size := by omega
          have hbsr2 : bs < wX.heap.size := by omega
          have hki : (k : Int) < 6 := by omega
          have hki2 : (k : Int) < 6 := by omega
          have hk5 : (0 : Int) ≤ (k : Int) := by omega
          obtain ⟨n0, hn0⟩ : ∃ n0, n0 = (needTo baseL s.table k).length := ⟨_, rfl⟩
          have HOn := HOk
          rw [← hn0] at HOn hnl
          have Hn0 := Lib.hid hn0
          have a1 : wX.cell? ⟨wO.heap.size, 1, none⟩ = some v := cell_in HKx.out
          have a2 : wX.cell? ⟨wO.heap.size, 2, none⟩ = some (.slice (some ⟨bs, os, none⟩) 1 cs) := cell_in HKx.out
          have t1 := Hs1.out wX Hbk.out
          clear hsr hr hg2 sp2 hst2 hnext hn0 hm2
          obtain ⟨nm2, hnm2⟩ : ∃ nm2, nm2 = B m2.id := ⟨_, rfl⟩
          rw [← hnm2] at l0 HSpk
          have Hnm2 := Lib.hid hnm2
          clear hnm2
          cases hspk : spkM m2 s.table with
          | false =>
            rw [hspk] at HSpk
            have Hspk := Lib.hid hspk
            clear hspk
            go_wp2_with fail
            go_region_law (first | (refine step_call (by rfl) 19 _ _ (by rfl) egSpR _ (by rfl) _ _ (HSpk.out _ (Below.refl _ _).drew) ?_; intro w7 hb7; have HB7 := Lib.hid ((Below.refl wX.heap.size wX).drew.trans hb7); clear hb7) | fail)
            all_goals
              have HO7 := Lib.hid (own_laterX HOk.out HB7.out)
              have Hb7 := Lib.hid (Hbk.out.trans (HB7.out.mono (by omega)))
              have HK7 := Lib.hid ((HB7.out.block _ (lt_of_block HKx.out)).trans HKx.out)
              have HN7 := Lib.hid Hnext.out
              rw [Hspk.out] at HN7
              simp only [Bool.false_eq_true, if_false] at HN7
              go_wp2_with fail
              go_roundw
              case rel => exact ⟨k + 1, _, by omega, by go_num, HK7, by rw [HN7.out]; exact HO7, Hb7⟩
              case measure => simp [intOf]; omega
          | true =>
            rw [hspk] at HSpk
            have Hspk := Lib.hid hspk
            clear hspk
            go_wp2_with fail
            go_region_law (first | (refine step_call (by rfl) 19 _ _ (by rfl) egSpR _ (by rfl) _ _ (HSpk.out _ (Below.refl _ _).drew) ?_; intro w7 hb7; have HB7 := Lib.hid ((Below.refl wX.heap.size wX).drew.trans hb7); clear hb7) | fail)
            all_goals
              have d0 := cell_then l0 HB7.out
              have d1 := cell_then a1 HB7.out
              have HO7 := Lib.hid (own_laterX HOn.out HB7.out)
              have Hb7 := Lib.hid (Hbk.out.trans (HB7.out.mono (by omega)))
              have HK7 := Lib.hid ((HB7.out.block _ (lt_of_block HKx.out)).trans HKx.out)
              have HN7 := Lib.hid Hnext.out
              rw [Hspk.out] at HN7
              simp only [if_true] at HN7
              have hz7 : wO.heap.size < w7.heap.size := lt_of_block HK7.out
              have hbr7 : bL < w7.heap.size := by have := HB7.out.size; omega
              clear l0 l1' l2' a1 a2 t1
              go_wp2_with fail
              go_region_law (first | (refine step_append_lit (by rfl) _ _ 26 (by rfl) 9 i0 _ 16 Try.underlying26 hi hz0 hz1 hz2 (by rfl) _ 1 (by omega) (by rfl) (by rfl) (wO.heap.size + 1) _ n0 _ (by rfl) HO7.out (by simp [Value.oneCell']) (by omega) (by omega) (by omega) ?_; intro g8 cap8 w10 hown hgrow _ _ _; have hne8 : some wO.heap.size ≠ v.ownBlock := (fun e => by have := (HO7.out.lt _ e.symm).1; omega); have hk10 := (hgrow.block _ (lt_of_block HK7.out) hne8).trans HK7.out; have e1 := cell_in (o := 1) hk10; have e2 : w10.frozen? ⟨wO.heap.size, 1, none⟩ = false := free_in hk10; have HK10 := Lib.hid hk10; have HO10 := Lib.hid hown; have HB10 := Lib.hid (Hb7.out.grown hgrow (by omega) (fun q hq => by have := (HO7.out.lt q hq).1; omega)); clear hown hgrow hk10 hne8) | (refine step_append_lit0 (by rfl) _ _ 26 (by rfl) 9 i0 _ 16 Try.underlying26 hi hz0 hz1 hz2 (by rfl) _ 1 (by omega) (by rfl) (by rfl) (wO.heap.size + 1) _ n0 _ (by rfl) HO7.out (by simp [Value.oneCell']) (by omega) (by omega) (by omega) ?_; intro g8 cap8 w10 hown hgrow _ _ _; have hne8 : some wO.heap.size ≠ v.ownBlock := (fun e => by have := (HO7.out.lt _ e.symm).1; omega); have hk10 := (hgrow.block _ (lt_of_block HK7.out) hne8).trans HK7.out; have e1 := cell_in (o := 1) hk10; have e2 : w10.frozen? ⟨wO.heap.size, 1, none⟩ = false := free_in hk10; have HK10 := Lib.hid hk10; have HO10 := Lib.hid hown; have HB10 := Lib.hid (Hb7.out.grown hgrow (by omega) (fun q hq => by have := (HO7.out.lt q hq).1; omega)); clear hown hgrow hk10 hne8) | fail)
              all_goals
                have HK11 := Lib.hid (heap_set (o := 1) HK10.out (.slice (some ⟨g8, 0, none⟩) (n0 + 1) cap8))
                have HB11 := Lib.hid (HB10.out.setCell (p := ⟨wO.heap.size, 1, none⟩) (Nat.le_refl _) (.slice (some ⟨g8, 0, none⟩) (n0 + 1) cap8))
                have HO11 : Hid ((w10.setCell ⟨wO.heap.size, 1, none⟩ (.slice (some ⟨g8, 0, none⟩) (n0 + 1) cap8)).ownsRow (wO.heap.size + 1) 9 1 (.slice (some ⟨g8, 0, none⟩) (n0 + 1) cap8) (needTo baseL s.table (k + 1)).length (rw.flat txC (needTo baseL s.table (k + 1)))) := Lib.hid (by
                  rw [HN7.out, List.length_append, ← Hn0.out, rw.flat_snoc]
                  rw [show txC m2.id = [.string nm2] by unfold txC; rw [Hnm2.out]]
                  exact own_low HO10.out (Nat.lt_succ_self _) _)
                go_wp2_with fail
                go_roundw
                case rel => exact ⟨k + 1, _, by omega, by go_num, HK11, HO11, HB11⟩
                case measure => simp [intOf]; omega
        · obtain rfl : k = 6 := by omega
          rw [show ((6 : Nat) : Int) = 6 from rfl]
          have HOc : Hid (wX.ownsRow (wO.heap.size + 1) 9 1 v (needTo baseL s.table 6 ++ needTo bareL s.table 0).length (rw.flat txC (needTo baseL s.table 6 ++ needTo bareL s.table 0))) := Lib.hid (by rw [show needTo bareL s.table 0 = [] from rfl, List.append_nil]; exact HOk.out)
          go_wp2_with fail
          go_loopw [8] (fun kv wx => ∃ (k : Nat) (v : Value), k ≤ i ∧ kv = .int .i64 k ∧ Hid (wx.heap[wO.heap.size]? = some (.cells #[.string nm, v, .slice (some ⟨bs, os, none⟩) 1 cs] 31 (0, 0))) ∧ Hid (wx.ownsRow (wO.heap.size + 1) 9 1 v (needTo baseL s.table 6 ++ needTo bareL s.table k).length (rw.flat txC (needTo baseL s.table 6 ++ needTo bareL s.table k))) ∧ Hid (Below wO.heap.size wO wx)) (fun kv _ => i - (intOf kv).toNat)
          case atStart => exact ⟨0, _, by omega, rfl, HKx, HOc, Hbk⟩
          case round =>
            clear HOc HOk HPX Hbk hzX HKx
            obtain ⟨k, v, hk, rfl, HKx, HOk, Hbk⟩ := hrel
            obtain ⟨wX, hwX⟩ : ∃ wX, wX = wr := ⟨_, rfl⟩
            subst hwX
            have hzX : wO.heap.size < wX.heap.size := lt_of_block HKx.out
            have HPX := Lib.hid (HBx.out.trans (Hbk.out.mono hzO))
            by_cases hltk : k < i
            · have hsr := H2.out.later HPX.out
              obtain ⟨r, hr⟩ : ∃ r, R2[k]? = some r := ⟨_, List.getElem?_eq_getElem (by rw [hl2]; omega)⟩
              obtain ⟨m2, hm2⟩ : ∃ m2, bareL[k]? = some m2 := ⟨_, List.getElem?_eq_getElem (by have : bareL.length = 5 := rfl; omega)⟩
              obtain ⟨l0, l1', l2'⟩ := mv_cells (hsr.1.rw mvC_len) hr
              have hg2 := hsr.2.2 k r m2 hr hm2
              have sp2 := hg2.2.2.rw spC_len
              rw [hg2.1] at l0
              have hnext : (needTo baseL s.table 6 ++ needTo bareL s.table (k + 1)) = if spkM m2 s.table = true then (needTo baseL s.table 6 ++ needTo bareL s.table k) ++ [m2.id] else (needTo baseL s.table 6 ++ needTo bareL s.table k) := (by rw [need_step (t := s.table) hm2]; split <;> simp [List.append_assoc])
              have hnl : (needTo baseL s.table 6 ++ needTo bareL s.table k).length ≤ 6 + k := (by rw [List.length_append]; have h1 := need_le baseL s.table 6; have h2 := need_le bareL s.table k; omega)
              obtain ⟨xi2, pn2, nn2, cn2, ps2, ns2, cs2⟩ := r
              simp only [MvR.vn, MvR.vs] at l1' l2' sp2
              have hst2 : ns2 ≤ 4294967295 := by
                rw [← sp2.ptr.1]
                have := (bare_steps m2 (List.mem_of_getElem? hm2)).2; omega
              have HSpk := Lib.hid fun (W : World) (hW : Below wX.heap.size wX W) => speaksR_any m2 s.table pn2 ps2 nn2 cn2 ns2 cs2 hst2 W (sp2.later hW)
              rw [← Htb.out] at HSpk
              have Hnext := Lib.hid hnext
              have hbr : bB < wX.heap.size := by omega
              have hbsr2 : bs < wX.heap.size := by omega
              have hki : (k : Int) < (i : Int) := by omega
              have hki2 : (k : Int) < 5 := by omega
              have hk5 : (0 : Int) ≤ (k : Int) := by omega
              obtain ⟨n0, hn0⟩ : ∃ n0, n0 = (needTo baseL s.table 6 ++ needTo bareL s.table k).length := ⟨_, rfl⟩
              have HOn := HOk
              rw [← hn0] at HOn hnl
              have Hn0 := Lib.hid hn0
              have a1 : wX.cell? ⟨wO.heap.size, 1, none⟩ = some v := cell_in HKx.out
              have a2 : wX.cell? ⟨wO.heap.size, 2, none⟩ = some (.slice (some ⟨bs, os, none⟩) 1 cs) := cell_in HKx.out
              have t1 := Hs1.out wX Hbk.out
              clear hsr hr hg2 sp2 hst2 hnext hn0 hm2
              obtain ⟨nm2, hnm2⟩ : ∃ nm2, nm2 = B m2.id := ⟨_, rfl⟩
              rw [← hnm2] at l0 HSpk
              have Hnm2 := Lib.hid hnm2
              clear hnm2
              cases hspk : spkM m2 s.table with
              | false =>
                rw [hspk] at HSpk
                have Hspk := Lib.hid hspk
                clear hspk
                go_wp2_with fail
                go_region_law (first | (refine step_call (by rfl) 19 _ _ (by rfl) egSpR _ (by rfl) _ _ (HSpk.out _ (Below.refl _ _).drew) ?_; intro w7 hb7; have HB7 := Lib.hid ((Below.refl wX.heap.size wX).drew.trans hb7); clear hb7) | fail)
                all_goals
                  have HO7 := Lib.hid (own_laterX HOk.out HB7.out)
                  have Hb7 := Lib.hid (Hbk.out.trans (HB7.out.mono (by omega)))
                  have HK7 := Lib.hid ((HB7.out.block _ (lt_of_block HKx.out)).trans HKx.out)
                  have HN7 := Lib.hid Hnext.out
                  rw [Hspk.out] at HN7
                  simp only [Bool.false_eq_true, if_false] at HN7
                  go_wp2_with fail
                  go_roundw
                  case rel => exact ⟨k + 1, _, by omega, by go_num, HK7, by rw [HN7.out]; exact HO7, Hb7⟩
                  case measure => simp [intOf]; omega
              | true =>
                rw [hspk] at HSpk
                have Hspk := Lib.hid hspk
                clear hspk
                go_wp2_with fail
                go_region_law (first | (refine step_call (by rfl) 19 _ _ (by rfl) egSpR _ (by rfl) _ _ (HSpk.out _ (Below.refl _ _).drew) ?_; intro w7 hb7; have HB7 := Lib.hid ((Below.refl wX.heap.size wX).drew.trans hb7); clear hb7) | fail)
                all_goals
                  have d0 := cell_then l0 HB7.out
                  have d1 := cell_then a1 HB7.out
                  have HO7 := Lib.hid (own_laterX HOn.out HB7.out)
                  have Hb7 := Lib.hid (Hbk.out.trans (HB7.out.mono (by omega)))
                  have HK7 := Lib.hid ((HB7.out.block _ (lt_of_block HKx.out)).trans HKx.out)
                  have HN7 := Lib.hid Hnext.out
                  rw [Hspk.out] at HN7
                  simp only [if_true] at HN7
                  have hz7 : wO.heap.size < w7.heap.size := lt_of_block HK7.out
                  have hbr7 : bB < w7.heap.size := by have := HB7.out.size; omega
                  clear l0 l1' l2' a1 a2 t1
                  go_wp2_with fail
                  go_region_law (first | (refine step_append_lit (by rfl) _ _ 26 (by rfl) 9 i0 _ 16 Try.underlying26 hi hz0 hz1 hz2 (by rfl) _ 1 (by omega) (by rfl) (by rfl) (wO.heap.size + 1) _ n0 _ (by rfl) HO7.out (by simp [Value.oneCell']) (by omega) (by omega) (by omega) ?_; intro g8 cap8 w10 hown hgrow _ _ _; have hne8 : some wO.heap.size ≠ v.ownBlock := (fun e => by have := (HO7.out.lt _ e.symm).1; omega); have hk10 := (hgrow.block _ (lt_of_block HK7.out) hne8).trans HK7.out; have e1 := cell_in (o := 1) hk10; have e2 : w10.frozen? ⟨wO.heap.size, 1, none⟩ = false := free_in hk10; have HK10 := Lib.hid hk10; have HO10 := Lib.hid hown; have HB10 := Lib.hid (Hb7.out.grown hgrow (by omega) (fun q hq => by have := (HO7.out.lt q hq).1; omega)); clear hown hgrow hk10 hne8) | (refine step_append_lit0 (by rfl) _ _ 26 (by rfl) 9 i0 _ 16 Try.underlying26 hi hz0 hz1 hz2 (by rfl) _ 1 (by omega) (by rfl) (by rfl) (wO.heap.size + 1) _ n0 _ (by rfl) HO7.out (by simp [Value.oneCell']) (by omega) (by omega) (by omega) ?_; intro g8 cap8 w10 hown hgrow _ _ _; have hne8 : some wO.heap.size ≠ v.ownBlock := (fun e => by have := (HO7.out.lt _ e.symm).1; omega); have hk10 := (hgrow.block _ (lt_of_block HK7.out) hne8).trans HK7.out; have e1 := cell_in (o := 1) hk10; have e2 : w10.frozen? ⟨wO.heap.size, 1, none⟩ = false := free_in hk10; have HK10 := Lib.hid hk10; have HO10 := Lib.hid hown; have HB10 := Lib.hid (Hb7.out.grown hgrow (by omega) (fun q hq => by have := (HO7.out.lt q hq).1; omega)); clear hown hgrow hk10 hne8) | fail)
                  all_goals
                    have HK11 := Lib.hid (heap_set (o := 1) HK10.out (.slice (some ⟨g8, 0, none⟩) (n0 + 1) cap8))
                    have HB11 := Lib.hid (HB10.out.setCell (p := ⟨wO.heap.size, 1, none⟩) (Nat.le_refl _) (.slice (some ⟨g8, 0, none⟩) (n0 + 1) cap8))
                    have HO11 : Hid ((w10.setCell ⟨wO.heap.size, 1, none⟩ (.slice (some ⟨g8, 0, none⟩) (n0 + 1) cap8)).ownsRow (wO.heap.size + 1) 9 1 (.slice (some ⟨g8, 0, none⟩) (n0 + 1) cap8) (needTo baseL s.table 6 ++ needTo bareL s.table (k + 1)).length (rw.flat txC (needTo baseL s.table 6 ++ needTo bareL s.table (k + 1)))) := Lib.hid (by
                      rw [HN7.out, List.length_append, ← Hn0.out, rw.flat_snoc]
                      rw [show txC m2.id = [.string nm2] by unfold txC; rw [Hnm2.out]]
                      exact own_low HO10.out (Nat.lt_succ_self _) _)
                    go_wp2_with fail
                    go_roundw
                    case rel => exact ⟨k + 1, _, by omega, by go_num, HK11, HO11, HB11⟩
                    case measure => simp [intOf]; omega
            · obtain rfl : i = k := by omega
              rw [← He5.out] at HOk
              have hOk := HOk.out
              obtain ⟨pw, cw, rfl⟩ := own_formX hOk
              obtain ⟨nw, hnw⟩ : ∃ nw, nw = m'.needs.length := ⟨_, rfl⟩
              rw [← hnw] at HKx
              have hkX := HKx.out
              have a0 : wX.cell? ⟨wO.heap.size, 0, none⟩ = some (.string nm) := cell_in hkX
              have a1 : wX.cell? ⟨wO.heap.size, 1, none⟩ = some (.slice pw nw cw) := cell_in hkX
              have a2 : wX.cell? ⟨wO.heap.size, 2, none⟩ = some (.slice (some ⟨bs, os, none⟩) 1 cs) := cell_in hkX
              obtain ⟨r, hr⟩ : ∃ r : MvR, r = ⟨m.id, pw, nw, cw, some ⟨bs, os, none⟩, 1, cs⟩ := ⟨_, rfl⟩
              have hbx10 : Below wX.heap.size wX (wX.alloc (.cells #[.string (B r.id), r.vn, r.vs] 31)) := (Below.refl _ _).alloc (Nat.le_refl _) _
              have hk10 := heap_alloc_new wX (.cells #[.string (B r.id), r.vn, r.vs] 31)
              have hP10 : Below w2.heap.size w2 (wX.alloc (.cells #[.string (B r.id), r.vn, r.vs] 31)) := HPX.out.trans (hbx10.mono HPX.out.size)
              have hgo : Goes w.heap.size (wX.alloc (.cells #[.string (B r.id), r.vn, r.vs] 31)) r m' := by
                have hgW := HG.out _ hP10
                refine ⟨by rw [hr]; exact He1.out, ?_, ?_⟩
                · have h := ((rw.own_new txC_len (by decide) hOk).later hbx10).mono (M' := w.heap.size) (by omega)
                  rw [← hnw] at h
                  have hv2 : r.vn = .slice pw nw cw := by rw [hr]
                  rw [← hv2] at h
                  exact h
                · have h := hgW.2.2.mono (M' := w.heap.size) hzz1
                  rw [He2.out] at h
                  have hv2 : r.vs = .slice (some ⟨bs, os, none⟩) 1 cs := by rw [hr]
                  have h2 : NewSp w.heap.size (wX.alloc (.cells #[.string (B r.id), r.vn, r.vs] 31)) (.slice (some ⟨bs, os, none⟩) 1 cs) m'.steps := h
                  rw [← hv2] at h2
                  exact h2
              have hr10 := HRow.out.later (Hbk.out.trans (hbx10.mono Hbk.out.size))
              have Hsrc10 : Hid (SrcV (wX.alloc (.cells #[.string (B r.id), r.vn, r.vs] 31)) (.slice (some ⟨wX.heap.size, 0, none⟩) 1 1) 1 (mvC r)) := Lib.hid (.inr ⟨by decide, _, _, rfl, fun j u hj => by
                rw [addN, cell_in hk10]
                have hl := lt_get hj
                rw [mvC_len] at hl
                match j, hl with
                | 0, _ => exact hj
                | 1, _ => exact hj
                | 2, _ => exact hj⟩)
              have HOw10 := Lib.hid hr10.1
              rw [HRn.out] at HOw10
              have Hone10 := Lib.hid (mvC_one r)
              have hz10 : w2.heap.size ≤ (wX.alloc (.cells #[.string (B r.id), r.vn, r.vs] 31)).heap.size := hP10.size
              have HEnd : Hid (∀ (v : Value) (w11 : World), w11.ownsRow w2.heap.size 31 3 v (i + 1) (rw.flat mvC R ++ mvC r) → (wX.alloc (.cells #[.string (B r.id), r.vn, r.vs] 31)).grownBy w11 vo.ownBlock → RowY w2.heap.size w.heap.size w11 v (R ++ [r]) (extraL.take (i + 1)) ∧ Below w2.heap.size w2 w11) := Lib.hid (fun v w11 ho hg' => by
                refine ⟨?_, below_grown_own hP10 hr10.1 hg' hz10⟩
                rw [take_at Hm'.out]
                exact RowY.push hr10 hgo (by rw [HRn.out]; exact ho) hg')
              rw [hr] at Hsrc10 HOw10 hz10 HEnd
              rw [hr] at Hone10
              simp only [MvR.vn, MvR.vs] at Hsrc10 HOw10 hz10 HEnd
              rw [← Hnm.out] at Hsrc10 HOw10 hz10 HEnd
              clear hOk HOk hkX hbx10 hk10 hP10 hgo hr10 hr hnw
              focus
                go_wp2_with (at_builtin; go_must (refine wpList_append_any rfl _ _ 22 rfl 31 i1 _ 3 64 Try.underlying22 si sz0 sz1 sz2 rfl (by decide) w2.heap.size _ i _ (by rfl) HOw10.out _ 1 _ (by rfl) Hsrc10.out (by rfl) Hone10.out (by omega) (by omega) hz10 ?_))
              intro p11 c11 w11 hown hgrow
              have hend := HEnd.out _ _ hown hgrow
              have H11 := Lib.hid (hend.1)
              have Hb11 := Lib.hid (hend.2)
              clear hend hown hgrow
              go_wp2_with fail
              go_roundw
              case rel => exact ⟨i + 1, _, _, by omega, by go_num, rfl, Lib.hid (by rw [List.length_append, HRn.out]; rfl), H11, Hb11⟩
              case measure => simp [intOf]; omega
    · obtain rfl : i = 5 := by omega
      have hx5 : extraL.take 5 = extraL := rfl
      rw [hx5] at HRow
      have HN := Lib.hid (HRow.out.new (by omega))
      have HBf := Lib.hid (HB2.out.trans (HBx.out.mono (by omega)))
      clear hx5
      go_wp2_with fail
      go_ret
      exact ⟨⟨_, _, rfl, HN.out⟩, HBf.out⟩
end Go.Proofs.Ythjcifokmcbaoaa.st
/- A law for any program: append to a slice that lies at the head of a block: the answer lies there or in a new block. No program in sight; no conditions beside those stated. -/
namespace Go.Proofs.Ythjcifokmcbaoaa
open Go.RowKit ls
section
variable {P : Program}
theorem run_append_new (w : World) (t ty : TypeId) (M : Nat) (e : TypeId) (i : TypeInfo) (z : Value) (size bytes : Nat) (ht : P.underlying t = some (.slice e)) (hi : P.info? e = some i) (hz : i.zero = some z)
    (hsize : i.size = size) (hby : i.bytes = bytes) (hzs : z.cells.size = size) (hsz : 0 < size)
    (v : Value) (n : Nat) (xs : List Value) (hB : Blk e size M w v n xs) (y : Value) (m : Nat) (news : List Value) (hm : 0 < m) (hy : SrcV w y m news) (hl : news.length = m * size) (h1 : ∀ u ∈ news, u.oneCell' = true)
    (h63 : n + m ≤ maxLen) (hbytes : (n + m) * bytes ≤ 140737488355328) (hM : M ≤ w.heap.size) :
    ∃ p c w', (Builtin.append_ #[t, t] ty #[v, y]).run P w = .ok (.slice p (n + m) c) w' ∧ Blk e size M w' (.slice p (n + m) c) (n + m) (xs ++ news) ∧ w.grownBy w' v.ownBlock ∧ Sh w w' ∧ ∀ q, (Value.slice p (n + m) c).ownBlock = some q → v.ownBlock = some q ∨ w.heap.size ≤ q := by
  obtain ⟨h0, ⟨rfl, rfl⟩ | ⟨g, c, cs, rfl, hnc, hMg, hb, hcs, htake⟩⟩ := hB
  · obtain ⟨p, cap, w', hr, h2, h3⟩ := run_append_any (P := P) w t ty w.heap.size e i z size bytes ht hi hz hsize hby hzs hsz (.slice none 0 0) 0 xs ⟨h0, .inl ⟨rfl, rfl⟩⟩ y m news hy hl h1 h63 hbytes (Nat.le_refl _)
    exact ⟨p, cap, w', hr, (Blk.of_own h2).mono hM, h3, Sh.of_none h3, fun q hq => .inr (h2.lt q hq).1⟩
  · rcases hy with ⟨h, _⟩ | ⟨_, ad, c', rfl, hc⟩
    · omega
    have hcut : ∀ (j : Nat) (u : Value), xs[j]? = some u → w.cell? ⟨g, j, none⟩ = some u := fun j u hj => by
      rw [cell_in hb, ← Array.getElem?_toList]
      rw [← htake, List.getElem?_take] at hj
      split at hj
      · exact hj
      · cases hj
    by_cases hroom : n + m ≤ c
    · have hsum : n * size + m * size ≤ cs.size := by
        have := Nat.mul_le_mul_right size hroom
        rw [Nat.add_mul] at this
        omega
      have hr := run_append_room_cells (P := P) w t ty e i ht hi g 0 n c ad m c' news (by rw [hl, hsize]) hc h1 hroom (fun j hj => by rw [cell_in hb, Nat.zero_add, hsize, Array.getElem?_eq_getElem (by omega)]; rfl) (fun j hj => free_in hb)
      rw [Nat.zero_add, hsize] at hr
      refine ⟨_, c, _, hr, ⟨by rw [List.length_append, h0, hl, Nat.add_mul], .inr ⟨g, c, setR cs (n * size) news, rfl, hroom, hMg, heap_setCells news w cs (n * size) hb, by rw [setR_size]; exact hcs, ?_⟩⟩, ?_, Sh.setCells hb _ _, fun q hq => .inl hq⟩
      · rw [Nat.add_mul, ← hl, take_setR (by omega), htake]
      · have hu := upd_setCells (S := [g]) (a := w) (g := g) (.inl (by simp)) news w (n * size) (Upd.refl _ _)
        exact ⟨hu.os, hu.tape, hu.output, hu.size, fun k hk hne => hu.block k hk (fun hm => hne (by rw [List.mem_singleton.1 hm]; rfl))⟩
    · obtain ⟨v', w', hr, h2, h3⟩ := run_append_arg_grows (P := P) w t ty e i z size bytes ht hi hz hsize hby hzs hsz ⟨g, 0, none⟩ n c xs h0 (fun j u hj => by rw [addN, Nat.zero_add]; exact hcut j u hj) ad m c' news hl hc (by omega) h63 hbytes
      obtain ⟨p, c2, rfl⟩ := Blk.form (Blk.of_own h2)
      exact ⟨p, c2, w', hr, (Blk.of_own h2).mono hM, ⟨h3.os, h3.tape, h3.output, h3.size, fun k hk _ => h3.block k hk (by simp)⟩, Sh.of_none h3, fun q hq => .inr (h2.lt q hq).1⟩
theorem wpList_append_new {ops : Array Oper} {rest : List Oper} {o : Oper} {a : Act} {w : World} {Q : Exit → Act → World → Prop} (hgd : o.guard = none) (s x : Operand) (t : TypeId)
    (ho : o.op = .call { callee := .builtin .append, args := #[s, x], argTypes := #[t, t] })
    (e : TypeId) (i : TypeInfo) (z : Value) (size bytes : Nat) (ht : P.underlying t = some (.slice e)) (hi : P.info? e = some i) (hz : i.zero = some z)
    (hsize : i.size = size) (hby : i.bytes = bytes) (hzs : z.cells.size = size) (hsz : 0 < size)
    (M : Nat) (v : Value) (n : Nat) (xs : List Value) (hs : a.eval s = v) (hB : Blk e size M w v n xs) (y : Value) (m : Nat) (news : List Value) (hm : 0 < m) (hx : a.eval x = y) (hy : SrcV w y m news) (hl : news.length = m * size)
    (h1 : ∀ u ∈ news, u.oneCell' = true) (h63 : n + m ≤ 9223372036854775807) (hbytes : (n + m) * bytes ≤ 140737488355328) (hM : M ≤ w.heap.size)
    (h : ∀ p c w', Blk e size M w' (.slice p (n + m) c) (n + m) (xs ++ news) → w.grownBy w' v.ownBlock → Sh w w' → (∀ q, (Value.slice p (n + m) c).ownBlock = some q → v.ownBlock = some q ∨ w.heap.size ≤ q) → wpList P ops Q rest (a.put o.dst (.slice p (n + m) c)) w') :
    wpList P ops Q (o :: rest) a w := by
  refine wpList_plain hgd fun K hK => ?_
  obtain ⟨p, c, w', hr, h2, h3, h4, h5⟩ := run_append_new (P := P) w t o.type M e i z size bytes ht hi hz hsize hby hzs hsz v n xs hB y m news hm hy hl h1 (by unfold maxLen; omega) hbytes hM
  unfold Oper.wp execOp
  simp only [ho, resolve, invoke, builtin, Sem.run_bind, Sem.run_pure, Result.andThen_ok, List.map_toArray, List.map_cons, List.map_nil, hs, hx, hr]
  exact hK _ _ (h p c w' h2 h3 h4 h5)
end
end Go.Proofs.Ythjcifokmcbaoaa
/- The blocks from one on, below another. No program in sight; no conditions. -/
namespace Go.Proofs.Ythjcifokmcbaoaa
/-- The blocks from B on, below M. -/
def span (B M : Nat) : List Nat := (List.range (M - B)).map (B + ·)
theorem mem_span {B M k : Nat} : k ∈ span B M ↔ B ≤ k ∧ k < M := by
  simp only [span, List.mem_map, List.mem_range]
  constructor
  · rintro ⟨a, h1, rfl⟩; omega
  · rintro ⟨h1, h2⟩; exact ⟨k - B, by omega, by omega⟩
end Go.Proofs.Ythjcifokmcbaoaa
/- law 19's over writes into its own list's blocks, and new ones, alone. Conditions: at most 1000 moves, each with at most 1000 needs and steps. -/
namespace Go.Proofs.Ythjcifokmcbaoaa.st
open Go.ChangeShapes Go.WideShapes Go.ChangeAt Go.RowKit gl ls

/-- A slice in a block from M on, below M2, whatever it holds. -/
def In (T : TypeId) (k M M2 : Nat) (w : World) (v : Value) (n : Nat) : Prop := (∃ xs, Blk T k M w v n xs) ∧ ∀ g, v.ownBlock = some g → g < M2
theorem In.sh {T : TypeId} {k M M2 : Nat} {w w' : World} {v : Value} {n : Nat} (h : In T k M M2 w v n) (hs : Sh w w') : In T k M M2 w' v n := by
  obtain ⟨⟨xs, hx⟩, hg⟩ := h
  exact ⟨hx.sh hs, hg⟩
/-- What is left of a list of moves from place i on. -/
def LeftMv (M M2 : Nat) (w : World) (g n c i : Nat) : Prop :=
  M ≤ g ∧ g < M2 ∧ n ≤ c ∧ ∃ cs, w.heap[g]? = some (.cells cs 31 (0, 0)) ∧ c * 3 ≤ cs.size ∧ ∀ j, i ≤ j → j < n → ∃ vn vs nn ns, cs[j * 3 + 1]? = some vn ∧ cs[j * 3 + 2]? = some vs ∧ nn ≤ 1000 ∧ ns ≤ 1000 ∧ In 9 1 M M2 w vn nn ∧ In 35 5 M M2 w vs ns
theorem LeftMv.keep {M M2 : Nat} {w w' : World} {g n c i : Nat} (h : LeftMv M M2 w g n c i) (hs : Sh w w') (hk : w'.heap[g]? = w.heap[g]?) : LeftMv M M2 w' g n c i := by
  obtain ⟨h1, h2, h3, cs, h4, h5, h6⟩ := h
  refine ⟨h1, h2, h3, cs, hk.trans h4, h5, fun j hj hn => ?_⟩
  obtain ⟨vn, vs, nn, ns, a, b, c1, d, e, f⟩ := h6 j hj hn
  exact ⟨vn, vs, nn, ns, a, b, c1, d, e.sh hs, f.sh hs⟩
theorem LeftMv.put {M M2 : Nat} {w : World} {g n c i : Nat} (h : LeftMv M M2 w g n c i) (vs : List Value) (hv : vs.length = 3) : LeftMv M M2 (w.setCells g (i * 3) vs) g n c (i + 1) := by
  obtain ⟨h1, h2, h3, cs, h4, h5, h6⟩ := h
  refine ⟨h1, h2, h3, _, heap_setCells vs w cs (i * 3) h4, by rw [setR_size]; exact h5, fun j hj hn => ?_⟩
  obtain ⟨vn, vs', nn, ns, a, b, c1, d, e, f⟩ := h6 j (by omega) hn
  exact ⟨vn, vs', nn, ns, by rw [setR_out _ _ _ _ (by omega)]; exact a, by rw [setR_out _ _ _ _ (by omega)]; exact b, c1, d, e.sh (Sh.setCells h4 _ _), f.sh (Sh.setCells h4 _ _)⟩
theorem LeftMv.start {M M2 : Nat} {w : World} {p : Option Addr} {n c : Nat} {R : List MvR} {l : List Mv} (h : NewMv M w (.slice p n c) R l) (hM : w.heap.size ≤ M2) (hn : 0 < n) (hlow : ∀ x ∈ l, x.needs.length ≤ 1000 ∧ x.steps.length ≤ 1000) : ∃ g, p = some ⟨g, 0, none⟩ ∧ LeftMv M M2 w g n c 0 := by
  obtain ⟨h1, h2, h3⟩ := h
  have hl := (h1.rw mvC_len).ptr.1
  rcases h1 with ⟨_, e⟩ | ⟨g, c', cs, e, e1, e2, e3, e4, e5⟩
  · cases e
    omega
  · cases e
    refine ⟨g, rfl, e2, by have := lt_of_block e3; omega, e1, cs, e3, e4, fun j _ hj => ?_⟩
    obtain ⟨x, hx⟩ : ∃ x, R[j]? = some x := ⟨_, List.getElem?_eq_getElem hj⟩
    obtain ⟨m, hm⟩ : ∃ m, l[j]? = some m := ⟨_, List.getElem?_eq_getElem (by rw [← h2]; exact hj)⟩
    obtain ⟨g1, g2, g3⟩ := h3 j x m hx hm
    obtain ⟨lo1, lo2⟩ := hlow m (List.mem_of_getElem? hm)
    have a1 := e5 (j * 3 + 1) _ (rw.flat_at mvC_len R j x 1 _ hx rfl)
    have a2 := e5 (j * 3 + 2) _ (rw.flat_at mvC_len R j x 2 _ hx rfl)
    rw [Nat.zero_add] at a1 a2
    refine ⟨_, _, m.needs.length, m.steps.length, a1, a2, lo1, lo2, ⟨⟨_, Blk.of_new txC_len g2⟩, fun b hb => ?_⟩, ⟨⟨_, Blk.of_new spC_len g3⟩, fun b hb => ?_⟩⟩
    · rcases g2 with ⟨_, e⟩ | ⟨g, c, cs, e, _, _, hk, _⟩
      · rw [e] at hb; cases hb
      · rw [e] at hb; cases hb
        have := lt_of_block hk
        exact Nat.lt_of_lt_of_le this hM
    · rcases g3 with ⟨_, e⟩ | ⟨g, c, cs, e, _, _, hk, _⟩
      · rw [e] at hb; cases hb
      · rw [e] at hb; cases hb
        have := lt_of_block hk
        exact Nat.lt_of_lt_of_le this hM
theorem blk_set1 {T : TypeId} {k M : Nat} {w : World} {g c n : Nat} {xs : List Value} (h : Blk T k M w (.slice (some ⟨g, 0, none⟩) n c) n xs) (o : Nat) (u : Value) : Blk T k M (w.setCell ⟨g, o, none⟩ u) (.slice (some ⟨g, 0, none⟩) n c) n (xs.set o u) := by
  obtain ⟨h0, ⟨h, _⟩ | ⟨g', c', cs, e, h1, h2, hb, h3, ht⟩⟩ := h
  · cases h
  · cases e
    refine ⟨by rw [List.length_set]; exact h0, .inr ⟨g, c, _, rfl, h1, h2, heap_set hb u, by simpa using h3, ?_⟩⟩
    rw [← ht, Array.toList_setIfInBounds, List.take_set]
theorem blk_ne {T U : TypeId} {k M n : Nat} {w : World} {v : Value} {xs : List Value} (h : Blk T k M w v n xs) {g : Nat} {cs : Array Value} (hg : w.heap[g]? = some (.cells cs U (0, 0))) (hT : T ≠ U) : some g ≠ v.ownBlock := by
  intro hh
  rcases h.2 with ⟨rfl, _⟩ | ⟨b, c, cs', rfl, _, _, hb, _⟩
  · cases hh
  · obtain rfl := Option.some.inj hh
    rw [hg] at hb
    cases hb
    exact hT rfl
theorem blk_lo {T : TypeId} {k M n : Nat} {w : World} {v : Value} {xs : List Value} (h : Blk T k M w v n xs) (q : Nat) (hq : v.ownBlock = some q) : M ≤ q := by
  rcases h.2 with ⟨rfl, _⟩ | ⟨b, c, cs', rfl, _, hM, _⟩
  · cases hq
  · cases hq
    exact hM
theorem blk_grown {T U : TypeId} {k k2 M M2 n n2 : Nat} {w w' : World} {v v2 : Value} {xs ys : List Value} (h : Blk T k M w v n xs) (h2 : Blk U k2 M2 w v2 n2 ys) (hT : U ≠ T) (hg : w.grownBy w' v2.ownBlock) : Blk T k M w' v n xs := by
  refine ⟨h.1, ?_⟩
  rcases h.2 with h1 | ⟨g, c, cs, e, a1, a2, hb, a3⟩
  · exact .inl h1
  · exact .inr ⟨g, c, cs, e, a1, a2, (hg.block g (lt_of_block hb) (blk_ne h2 hb hT)).trans hb, a3⟩
theorem src_two {w : World} {g : Nat} {cs : Array Value} {T : TypeId} (hg : w.heap[g]? = some (.cells cs T (0, 0))) : SrcV w (.slice (some ⟨g, 0, none⟩) 2 2) 2 cs.toList := .inr ⟨by decide, _, _, rfl, fun j u hj => by
    rw [addN, cell_in hg, Nat.zero_add, ← Array.getElem?_toList]
    exact hj⟩
theorem blk_set_far {T U : TypeId} {k M : Nat} {w : World} {v : Value} {n : Nat} {Q : List Value → Prop} (h : ∃ xs, Blk T k M w v n xs ∧ Q xs) {b : Nat} {cs : Array Value} (hb : w.heap[b]? = some (.cells cs U (0, 0))) (hT : T ≠ U) (o : Nat) (vs : List Value) : ∃ xs, Blk T k M (w.setCells b o vs) v n xs ∧ Q xs := by
  obtain ⟨xs, ⟨h0, h⟩, hq⟩ := h
  refine ⟨xs, ⟨h0, ?_⟩, hq⟩
  rcases h with h | ⟨g, c, cs', e, h1, h2, h3, h4⟩
  · exact .inl h
  · exact .inr ⟨g, c, cs', e, h1, h2, (heap_setCells_ne (ne_of_types h3 hb hT) vs w o).trans h3, h4⟩
abbrev ovB : ByteArray := ⟨#[111, 118, 101, 114]⟩
abbrev stM : List Value := [.int .i64 77, .string ⟨#[]⟩, .string ⟨#[]⟩, .string ⟨#[]⟩, .string ⟨#[]⟩]
theorem lit_src2 {w : World} {g : Nat} {cs : Array Value} {T : TypeId} {n : Nat} (hn : 0 < n) (hg : w.heap[g]? = some (.cells cs T (0, 0))) : SrcV w (.slice (some ⟨g, 0, none⟩) n n) n cs.toList := .inr ⟨hn, _, _, rfl, fun j u hj => by
    rw [addN, cell_in hg, Nat.zero_add, ← Array.getElem?_toList]
    exact hj⟩
set_option maxHeartbeats 8000000 in
set_option maxRecDepth 100000 in
theorem over19_any (M M2 g n c : Nat) (hn : n ≤ 1000) (w : World) (hM2 : M2 ≤ w.heap.size) (h : LeftMv M M2 w g n c 0) :
    Calls Try.prog 7 #[.slice (some ⟨g, 0, none⟩) n c] w fun e w' => e = .returned (.tuple #[]) ∧ Upd (span M M2) w w' := by
  have HL := Lib.hid h
  have hMg : M ≤ g := h.1
  have hgM : g < M2 := h.2.1
  obtain ⟨i0, hi, hz0, hz1, hz2⟩ := info_parts infoTx
  obtain ⟨i1, si, sz0, sz1, sz2⟩ := info_parts infoSp
  obtain ⟨i2, mi, mz0, mz1, mz2⟩ := info_parts infoMv
  clear h
  go_enter Try.func7, Try.ntmps7
  go_wp2_with fail
  go_loopw [2] (fun i wr => ∃ k : Nat, k ≤ n ∧ i = .int .i64 k ∧ Hid (LeftMv M M2 wr g n c k) ∧ Hid (Upd (span M M2) w wr)) (fun i _ => n - (intOf i).toNat)
  case atStart => exact ⟨0, by omega, rfl, HL, Lib.hid (Upd.refl _ _)⟩
  case round =>
    clear HL
    obtain ⟨i, hi', rfl, HL, HU⟩ := hrel
    obtain ⟨wO, hwO⟩ : ∃ wO, wO = wr := ⟨_, rfl⟩
    subst hwO
    have hzO := HU.out.size
    by_cases hlt : i < n
    · obtain ⟨_, _, hnc, cg, hcg, hcs, hall⟩ := HL.out
      obtain ⟨vn, vs, nn, ns, hvn, hvs, hnn, hns, hIn, hIs⟩ := hall i (Nat.le_refl _) hlt
      obtain ⟨⟨xs0, hbn⟩, hgn⟩ := hIn
      obtain ⟨⟨ys0, hbs⟩, hgs⟩ := hIs
      obtain ⟨pn, cn, rfl⟩ := hbn.form
      obtain ⟨ps, cs, rfl⟩ := hbs.form
      have Hcg := Lib.hid hcg
      have Hvn := Lib.hid hvn
      have Hvs := Lib.hid hvs
      have c1 : wO.cell? ⟨g, i * 3 + 1, none⟩ = some (.slice pn nn cn) := (cell_in hcg).trans hvn
      have c2 : wO.cell? ⟨g, i * 3 + 2, none⟩ = some (.slice ps ns cs) := (cell_in hcg).trans hvs
      have hki : (i : Int) < (n : Int) := by omega
      have hk5 : (0 : Int) ≤ (i : Int) := by omega
      have hgO : g < wO.heap.size := by omega
      have HB0 := Lib.hid hbn
      have HS0 := Lib.hid hbs
      have Hgn := Lib.hid hgn
      have Hgs := Lib.hid hgs
      clear hcg hall hvn hvs hbn hbs hgn hgs hcs
      go_wp2_with fail
      clear c1 c2
      go_loopw [5] (fun kv wx => ∃ k : Nat, k ≤ nn ∧ kv = .int .i64 k ∧ Hid (∃ xs, Blk 9 1 M wx (.slice pn nn cn) nn xs) ∧ Hid (wx.heap[g]? = wO.heap[g]?) ∧ Hid (Sh wO wx) ∧ Hid (Upd (span M M2) w wx)) (fun kv _ => nn - (intOf kv).toNat)
      case atStart => exact ⟨0, by omega, rfl, Lib.hid ⟨xs0, HB0.out⟩, Lib.hid rfl, Lib.hid (Sh.refl _), HU⟩
      case round =>
        obtain ⟨k, hk, rfl, HBk, Hgk, Hsh, HUk⟩ := hrel
        have hkg := Hgk.out.trans Hcg.out
        by_cases hlt2 : k < nn
        · obtain ⟨xs, hbk⟩ := HBk.out
          obtain ⟨gn, csn, rfl, hgn1, _, hkn, hszn, htn⟩ := hbk.at_ (by omega)
          have hgnM : gn < M2 := Hgn.out gn rfl
          have hne : g ≠ gn := ne_of_types hkg hkn (by decide)
          have hl1 := hbk.1
          have c3 : wr.cell? ⟨gn, k, none⟩ = some (xs[k]'(by omega)) := hbk.cell (List.getElem?_eq_getElem _)
          have c4 : wr.frozen? ⟨gn, k, none⟩ = false := free_in hkn
          generalize xs[k]'(by omega) = old at c3
          have hgnr : gn < wr.heap.size := lt_of_block hkn
          have HB2 : Hid (∃ ys, Blk 9 1 M (wr.setCell ⟨gn, k, none⟩ (.string ovB)) (.slice (some ⟨gn, 0, none⟩) nn cn) nn ys) := Lib.hid ⟨_, blk_set1 hbk k (.string ovB)⟩
          have HG2 : Hid ((wr.setCell ⟨gn, k, none⟩ (.string ovB)).heap[g]? = wO.heap[g]?) := Lib.hid ((Below.heap_setCell wr _ _ g hne).trans Hgk.out)
          have HS2 : Hid (Sh wO (wr.setCell ⟨gn, k, none⟩ (.string ovB))) := Lib.hid (Hsh.out.trans (Sh.setCell hkn _ _))
          have HU2 : Hid (Upd (span M M2) w (wr.setCell ⟨gn, k, none⟩ (.string ovB))) := Lib.hid (HUk.out.setCell (.inl (mem_span.2 ⟨hgn1, hgnM⟩)) _)
          have hkk : (k : Int) < (nn : Int) := by omega
          have hkk5 : (0 : Int) ≤ (k : Int) := by omega
          clear hbk hkn hszn htn hkg hl1
          go_wp2_with fail
          go_roundw
          case rel => exact ⟨k + 1, by omega, by go_num, HB2, HG2, HS2, HU2⟩
          case measure => simp [intOf]; omega
        · obtain rfl : k = nn := by omega
          obtain ⟨wX, hwX⟩ : ∃ wX, wX = wr := ⟨_, rfl⟩
          subst hwX
          go_wp2_with fail
          go_loopw [6] (fun kv wx => ∃ t : Nat, t ≤ ns ∧ kv = .int .i64 t ∧ Hid (wx.heap[g]? = wO.heap[g]?) ∧ Hid (∃ xs, Blk 9 1 M wx (.slice pn k cn) k xs) ∧ Hid (Sh wO wx) ∧ Hid (Upd (span M M2) w wx)) (fun kv _ => ns - (intOf kv).toNat)
          case atStart => exact ⟨0, by omega, rfl, Hgk, HBk, Hsh, HUk⟩
          case round =>
            clear Hgk HBk Hsh HUk
            obtain ⟨t, ht, rfl, Hgk, HBk, Hsh, HUk⟩ := hrel
            have hkg := Hgk.out.trans Hcg.out
            obtain ⟨zs, hzs⟩ := HS0.out.sh Hsh.out
            by_cases hlt3 : t < ns
            · obtain ⟨gs, css, rfl, hgs1, hns', hks, hszs, _⟩ := hzs.at_ (by omega)
              have hgsM : gs < M2 := Hgs.out gs rfl
              have hne : g ≠ gs := ne_of_types hkg hks (by decide)
              have hgsr : gs < wr.heap.size := lt_of_block hks
              have hszt : t * 5 + 5 ≤ css.size := by
                have := Nat.mul_le_mul_right 5 (show t + 1 ≤ cs by omega)
                omega
              have hat : ∀ q, q < 5 → wr.cell? ⟨gs, t * 5 + q, none⟩ = some (css[t * 5 + q]?.getD undef) := fun q hq => by
                rw [cell_in hks, Array.getElem?_eq_getElem (by omega)]
                rfl
              have d0 := hat 0 (by omega)
              have d1 := hat 1 (by omega)
              have d2 := hat 2 (by omega)
              have d3 := hat 3 (by omega)
              have d4 := hat 4 (by omega)
              rw [Nat.add_zero] at d0
              have e0 : wr.frozen? ⟨gs, t * 5, none⟩ = false := free_in hks
              have e1 : wr.frozen? ⟨gs, t * 5 + 1, none⟩ = false := free_in hks
              have e2 : wr.frozen? ⟨gs, t * 5 + 2, none⟩ = false := free_in hks
              have e3 : wr.frozen? ⟨gs, t * 5 + 3, none⟩ = false := free_in hks
              have e4 : wr.frozen? ⟨gs, t * 5 + 4, none⟩ = false := free_in hks
              generalize css[t * 5]?.getD undef = o0 at d0
              generalize css[t * 5 + 1]?.getD undef = o1 at d1
              generalize css[t * 5 + 2]?.getD undef = o2 at d2
              generalize css[t * 5 + 3]?.getD undef = o3 at d3
              generalize css[t * 5 + 4]?.getD undef = o4 at d4
              have HX : Hid ((wr.setCells gs (t * 5) stM).heap[g]? = wO.heap[g]? ∧ (∃ xs, Blk 9 1 M (wr.setCells gs (t * 5) stM) (.slice pn k cn) k xs) ∧ Sh wO (wr.setCells gs (t * 5) stM) ∧ Upd (span M M2) w (wr.setCells gs (t * 5) stM)) := Lib.hid
                ⟨(heap_setCells_ne hne _ _ _).trans Hgk.out, by obtain ⟨ys, h, _⟩ := blk_set_far (Q := fun _ => True) ⟨_, HBk.out.choose_spec, trivial⟩ hks (by decide) (t * 5) stM; exact ⟨ys, h⟩, Hsh.out.trans (Sh.setCells hks _ _), upd_setCells (.inl (mem_span.2 ⟨hgs1, hgsM⟩)) _ _ _ HUk.out⟩
              have hkk : (t : Int) < (ns : Int) := by omega
              have hkk5 : (0 : Int) ≤ (t : Int) := by omega
              clear hat hks hszs hkg hzs hszt
              go_wp2_with fail
              go_roundw
              case rel => exact ⟨t + 1, by omega, by go_num, Lib.hid HX.out.1, Lib.hid HX.out.2.1, Lib.hid HX.out.2.2.1, Lib.hid HX.out.2.2.2⟩
              case measure => simp [intOf]; omega
            · obtain rfl : t = ns := by omega
              obtain ⟨wY, hwY⟩ : ∃ wY, wY = wr := ⟨_, rfl⟩
              subst hwY
              have HZ0 : Hid (∃ ys, Blk 35 5 M wY (.slice ps t cs) t ys) := Lib.hid ⟨zs, hzs⟩
              have hOwn0 : Hid (∀ q, (Value.slice pn k cn).ownBlock = some q → q < M2 ∨ w.heap.size ≤ q) := Lib.hid fun q hq => .inl (Hgn.out q hq)
              have hOwn1 : Hid (∀ q, (Value.slice ps t cs).ownBlock = some q → q < M2 ∨ w.heap.size ≤ q) := Lib.hid fun q hq => .inl (Hgs.out q hq)
              clear hzs hkg
              go_wp2_with fail
              go_loopw [3, 4, 7] (fun xv yv kv wx => ∃ (u : Nat) (a b : Value), u ≤ 4 ∧ kv = .int .i64 u ∧ a = xv ∧ b = yv ∧ Hid (∃ xs, Blk 9 1 M wx a (k + u) xs) ∧ Hid (∃ ys, Blk 35 5 M wx b (t + u) ys) ∧ Hid (∀ q, a.ownBlock = some q → q < M2 ∨ w.heap.size ≤ q) ∧ Hid (∀ q, b.ownBlock = some q → q < M2 ∨ w.heap.size ≤ q) ∧ Hid (wx.heap[g]? = wO.heap[g]?) ∧ Hid (Sh wO wx) ∧ Hid (Upd (span M M2) w wx)) (fun _ _ kv _ => 4 - (intOf kv).toNat)
              case atStart => exact ⟨0, _, _, by omega, rfl, rfl, rfl, HBk, HZ0, hOwn0, hOwn1, Hgk, Hsh, HUk⟩
              case round =>
                clear Hgk HBk Hsh HUk HZ0 hOwn0 hOwn1
                obtain ⟨u, av, bv, hu, rfl, rfl, rfl, HBx, HBy, Hox, Hoy, Hgk, Hsh, HUk⟩ := hrel
                obtain ⟨wZ, hwZ⟩ : ∃ wZ, wZ = wr := ⟨_, rfl⟩
                subst hwZ
                have hkg := Hgk.out.trans Hcg.out
                have hzZ := HUk.out.size
                have hu5 : (0 : Int) ≤ (u : Int) := by omega
                by_cases hltu : u < 4
                · obtain ⟨xs, hbx⟩ := HBx.out
                  have hbA : Below wZ.heap.size wZ (wZ.alloc (.cells #[.string ovB] 9)) := (Below.refl _ _).alloc (Nat.le_refl _) _
                  have HBA := Lib.hid (hbx.later hbA)
                  have HsrcA := Lib.hid (lit_src2 (n := 1) (by decide) (heap_alloc_new wZ (.cells #[.string ovB] 9)))
                  have HkgA := Lib.hid ((hbA.block g (lt_of_block hkg)).trans hkg)
                  have HUA : Hid (Upd (span M M2) w (wZ.alloc (.cells #[.string ovB] 9))) := Lib.hid (HUk.out.alloc _)
                  have HshA : Hid (Sh wO (wZ.alloc (.cells #[.string ovB] 9))) := Lib.hid (Hsh.out.trans (Sh.alloc _ _))
                  have hzA : M ≤ (wZ.alloc (.cells #[.string ovB] 9)).heap.size := by have := hbA.size; omega
                  have hwA : w.heap.size ≤ (wZ.alloc (.cells #[.string ovB] 9)).heap.size := by have := hbA.size; omega
                  have HyA : Hid (∃ ys, Blk 35 5 M (wZ.alloc (.cells #[.string ovB] 9)) bv (t + u) ys) := Lib.hid ⟨_, HBy.out.choose_spec.later hbA⟩
                  have Hoa : Hid (∀ z ∈ (#[.string ovB] : Array Value).toList, z.oneCell' = true) := Lib.hid (by simp [Value.oneCell'])
                  have hui : (u : Int) < 4 := by omega
                  clear hbx hbA hkg
                  focus
                    go_wp2_with (at_builtin; go_must (refine wpList_append_new rfl _ _ 26 rfl 9 i0 _ 1 16 Try.underlying26 hi hz0 hz1 hz2 rfl (by decide) M _ (k + u) xs (by rfl) HBA.out _ 1 _ (by decide) (by rfl) HsrcA.out (by rfl) Hoa.out (by omega) (by omega) hzA ?_))
                  intro p5 c5 w5 hb5 hg5 hs5 hf5
                  have hk5g := (hg5.block g (lt_of_block HkgA.out) (blk_ne HBA.out HkgA.out (by decide))).trans HkgA.out
                  have hsh5 := HshA.out.trans hs5
                  obtain ⟨ys, hy⟩ := HyA.out
                  have hy5 := blk_grown hy HBA.out (by decide) hg5
                  have hU5 := HUA.out.grown hg5 (fun q hq => (Hox.out q hq).elim (fun h => .inl (mem_span.2 ⟨blk_lo HBA.out q hq, h⟩)) .inr)
                  have Hox5 : Hid (∀ q, (Value.slice p5 (k + u + 1) c5).ownBlock = some q → q < M2 ∨ w.heap.size ≤ q) := Lib.hid fun q hq => (hf5 q hq).elim (Hox.out q) (fun h => .inr (by omega))
                  have hz5 : w.heap.size ≤ w5.heap.size := hU5.size
                  have hbB : Below w5.heap.size w5 (w5.alloc (.cells stM.toArray 35)) := (Below.refl _ _).alloc (Nat.le_refl _) _
                  have HBB := Lib.hid (hy5.later hbB)
                  have HsrcB : Hid (SrcV (w5.alloc (.cells stM.toArray 35)) (.slice (some ⟨w5.heap.size, 0, none⟩) 1 1) 1 stM) := Lib.hid (lit_src2 (n := 1) (by decide) (heap_alloc_new w5 (.cells stM.toArray 35)))
                  have HkgB := Lib.hid ((hbB.block g (lt_of_block hk5g)).trans hk5g)
                  have HUB : Hid (Upd (span M M2) w (w5.alloc (.cells stM.toArray 35))) := Lib.hid (hU5.alloc _)
                  have HshB : Hid (Sh wO (w5.alloc (.cells stM.toArray 35))) := Lib.hid (hsh5.trans (Sh.alloc _ _))
                  have H5B := Lib.hid (hb5.later hbB)
                  have hzB : M ≤ (w5.alloc (.cells stM.toArray 35)).heap.size := by have := hbB.size; omega
                  have hwB : w.heap.size ≤ (w5.alloc (.cells stM.toArray 35)).heap.size := by have := hbB.size; omega
                  have Hob : Hid (∀ z ∈ stM, z.oneCell' = true) := Lib.hid (by simp [Value.oneCell'])
                  clear hk5g hb5 hg5 hs5 hsh5 hy hy5 hU5 hbB hf5 HsrcA Hoa
                  focus
                    go_wp2_with (at_builtin; go_must (refine wpList_append_new rfl _ _ 29 rfl 35 i1 _ 5 72 Try.underlying29 si sz0 sz1 sz2 rfl (by decide) M _ (t + u) ys (by rfl) HBB.out _ 1 _ (by decide) (by rfl) HsrcB.out (by rfl) Hob.out (by omega) (by omega) hzB ?_))
                  intro p6 c6 w6 hb6 hg6 hs6 hf6
                  have HK6 : Hid (w6.heap[g]? = wO.heap[g]?) := Lib.hid (((hg6.block g (lt_of_block HkgB.out) (blk_ne HBB.out HkgB.out (by decide))).trans HkgB.out).trans Hcg.out.symm)
                  have HX6 : Hid (∃ xs, Blk 9 1 M w6 (.slice p5 (k + u + 1) c5) (k + u + 1) xs) := Lib.hid ⟨_, blk_grown H5B.out HBB.out (by decide) hg6⟩
                  have HY6 : Hid (∃ ys, Blk 35 5 M w6 (.slice p6 (t + u + 1) c6) (t + u + 1) ys) := Lib.hid ⟨_, hb6⟩
                  have HU6 := Lib.hid (HUB.out.grown hg6 (fun q hq => (Hoy.out q hq).elim (fun h => .inl (mem_span.2 ⟨blk_lo HBB.out q hq, h⟩)) .inr))
                  have Hoy6 : Hid (∀ q, (Value.slice p6 (t + u + 1) c6).ownBlock = some q → q < M2 ∨ w.heap.size ≤ q) := Lib.hid fun q hq => (hf6 q hq).elim (Hoy.out q) (fun h => .inr (by omega))
                  have HS6 := Lib.hid (HshB.out.trans hs6)
                  clear hb6 hg6 hs6 hf6
                  go_wp2_with fail
                  go_roundw
                  case rel => exact ⟨u + 1, _, _, by omega, by go_num, rfl, rfl, HX6, HY6, Hox5, Hoy6, HK6, HS6, HU6⟩
                  case measure => simp [intOf]; omega
                · obtain rfl : u = 4 := by omega
                  have hL6 := HL.out.keep Hsh.out Hgk.out
                  have hsz : i * 3 + 3 ≤ cg.size := by
                    obtain ⟨_, _, _, cs', h4', h5', _⟩ := HL.out
                    rw [Hcg.out] at h4'
                    cases h4'
                    omega
                  have hat : ∀ q, q < 3 → wZ.cell? ⟨g, i * 3 + q, none⟩ = some (cg[i * 3 + q]?.getD undef) := fun q hq => by
                    rw [cell_in hkg, Array.getElem?_eq_getElem (by omega)]
                    rfl
                  have q0 := hat 0 (by omega)
                  have q1 := hat 1 (by omega)
                  have q2 := hat 2 (by omega)
                  rw [Nat.add_zero] at q0
                  have r0 : wZ.frozen? ⟨g, i * 3, none⟩ = false := free_in hkg
                  have r1 : wZ.frozen? ⟨g, i * 3 + 1, none⟩ = false := free_in hkg
                  have r2 : wZ.frozen? ⟨g, i * 3 + 2, none⟩ = false := free_in hkg
                  have hgZ : g < wZ.heap.size := lt_of_block hkg
                  generalize cg[i * 3]?.getD undef = o0 at q0
                  generalize cg[i * 3 + 1]?.getD undef = o1 at q1
                  generalize cg[i * 3 + 2]?.getD undef = o2 at q2
                  have HF : Hid (∀ vs : List Value, vs.length = 3 → LeftMv M M2 (wZ.setCells g (i * 3) vs) g n c (i + 1) ∧ Upd (span M M2) w (wZ.setCells g (i * 3) vs)) := Lib.hid fun vs hv => ⟨hL6.put vs hv, upd_setCells (.inl (mem_span.2 ⟨hMg, hgM⟩)) _ _ _ HUk.out⟩
                  clear hat hkg hL6 hsz HBx HBy
                  go_wp2_with fail
                  go_roundw
                  case rel => exact ⟨i + 1, by omega, by go_num, Lib.hid (HF.out [_, _, _] rfl).1, Lib.hid (HF.out [_, _, _] rfl).2⟩
                  case measure => simp [intOf]; omega
    · obtain rfl : i = n := by omega
      obtain ⟨_, _, hnc, cg, hcg, hcs, _⟩ := HL.out
      have HB0 : Hid (∃ xs, Blk 31 3 M wO (.slice (some ⟨g, 0, none⟩) i c) i xs) := Lib.hid ⟨cg.toList.take (i * 3), by
        rw [List.length_take]
        have := Nat.mul_le_mul_right 3 hnc
        simp only [Array.length_toList]
        omega, .inr ⟨g, c, cg, rfl, hnc, hMg, hcg, hcs, rfl⟩⟩
      have HO0 : Hid (∀ q, (Value.slice (some ⟨g, 0, none⟩) i c).ownBlock = some q → q < M2 ∨ w.heap.size ≤ q) := Lib.hid fun q hq => by cases hq; exact .inl hgM
      clear hcg hcs hnc HL
      go_wp2_with fail
      go_loopw [0, 8] (fun lv kv wx => ∃ (u : Nat) (a : Value), u ≤ 4 ∧ kv = .int .i64 u ∧ a = lv ∧ Hid (∃ xs, Blk 31 3 M wx a (i + u) xs) ∧ Hid (∀ q, a.ownBlock = some q → q < M2 ∨ w.heap.size ≤ q) ∧ Hid (Upd (span M M2) w wx)) (fun _ kv _ => 4 - (intOf kv).toNat)
      case atStart => exact ⟨0, _, by omega, rfl, rfl, HB0, HO0, HU⟩
      case round =>
        clear HB0 HO0 HU
        obtain ⟨u, av, hu, rfl, rfl, HBx, Hox, HUk⟩ := hrel
        obtain ⟨wZ, hwZ⟩ : ∃ wZ, wZ = wr := ⟨_, rfl⟩
        subst hwZ
        have hzZ := HUk.out.size
        have hu5 : (0 : Int) ≤ (u : Int) := by omega
        by_cases hltu : u < 4
        · obtain ⟨xs, hbx⟩ := HBx.out
          have hbA : Below wZ.heap.size wZ (wZ.alloc (.cells #[.string ovB, .slice none 0 0, .slice none 0 0] 31)) := (Below.refl _ _).alloc (Nat.le_refl _) _
          have HBA := Lib.hid (hbx.later hbA)
          have HsrcA := Lib.hid (lit_src2 (n := 1) (by decide) (heap_alloc_new wZ (.cells #[.string ovB, .slice none 0 0, .slice none 0 0] 31)))
          have HUA : Hid (Upd (span M M2) w (wZ.alloc (.cells #[.string ovB, .slice none 0 0, .slice none 0 0] 31))) := Lib.hid (HUk.out.alloc _)
          have hzA : M ≤ (wZ.alloc (.cells #[.string ovB, .slice none 0 0, .slice none 0 0] 31)).heap.size := by have := hbA.size; omega
          have hwA : w.heap.size ≤ (wZ.alloc (.cells #[.string ovB, .slice none 0 0, .slice none 0 0] 31)).heap.size := by have := hbA.size; omega
          have Hoa : Hid (∀ z ∈ (#[.string ovB, .slice none 0 0, .slice none 0 0] : Array Value).toList, z.oneCell' = true) := Lib.hid (by simp [Value.oneCell'])
          have hui : (u : Int) < 4 := by omega
          clear hbx hbA
          focus
            go_wp2_with (at_builtin; go_must (refine wpList_append_new rfl _ _ 22 rfl 31 i2 _ 3 64 Try.underlying22 mi mz0 mz1 mz2 rfl (by decide) M _ (i + u) xs (by rfl) HBA.out _ 1 _ (by decide) (by rfl) HsrcA.out (by rfl) Hoa.out (by omega) (by omega) hzA ?_))
          intro p5 c5 w5 hb5 hg5 hs5 hf5
          have HX5 : Hid (∃ xs, Blk 31 3 M w5 (.slice p5 (i + u + 1) c5) (i + u + 1) xs) := Lib.hid ⟨_, hb5⟩
          have HU5 := Lib.hid (HUA.out.grown hg5 (fun q hq => (Hox.out q hq).elim (fun h => .inl (mem_span.2 ⟨blk_lo HBA.out q hq, h⟩)) .inr))
          have HO5 : Hid (∀ q, (Value.slice p5 (i + u + 1) c5).ownBlock = some q → q < M2 ∨ w.heap.size ≤ q) := Lib.hid fun q hq => (hf5 q hq).elim (Hox.out q) (fun h => .inr (by omega))
          clear hb5 hg5 hs5 hf5 HsrcA Hoa
          go_wp2_with fail
          go_roundw
          case rel => exact ⟨u + 1, _, by omega, by go_num, rfl, HX5, HO5, HU5⟩
          case measure => simp [intOf]; omega
        · obtain rfl : u = 4 := by omega
          go_wp2_with fail
          go_end0
          exact ⟨rfl, HUk.out⟩
end Go.Proofs.Ythjcifokmcbaoaa.st
/- ExtraStands returns true in every world. No conditions. -/
namespace Go.Proofs.Ythjcifokmcbaoaa.st
open Go.ChangeShapes Go.WideShapes Go.ChangeAt Go.RowKit gl ls

theorem new_apart {α : Type} {enc : α → List Value} {k : Nat} {T : TypeId} {M : Nat} {w0 w w' : World} {v : Value} {l : List α} {S : List Nat} (h : rw.NewRw enc k T M w0 v l) (hb : Below w0.heap.size w0 w) (hu : Upd S w w') (hS : ∀ g ∈ S, g < M ∨ w0.heap.size ≤ g) : rw.NewRw enc k T M w' v l := by
  rcases h with h | ⟨g, c, cs, rfl, hc, hg, hbk, h2⟩
  · exact .inl h
  · have hlt := lt_of_block hbk
    refine .inr ⟨g, c, cs, rfl, hc, hg, (hu.block g (by have := hb.size; omega) fun e => ?_).trans ((hb.block g hlt).trans hbk), h2⟩
    rcases hS g e with h | h <;> omega
theorem NewMv.apart {M : Nat} {w0 w w' : World} {v : Value} {R : List MvR} {l : List Mv} {S : List Nat} (h : NewMv M w0 v R l) (hb : Below w0.heap.size w0 w) (hu : Upd S w w') (hS : ∀ g ∈ S, g < M ∨ w0.heap.size ≤ g) : NewMv M w' v R l :=
  ⟨new_apart h.1 hb hu hS, h.2.1, fun i r m h1 h2 => ⟨(h.2.2 i r m h1 h2).1, new_apart (h.2.2 i r m h1 h2).2.1 hb hu hS, new_apart (h.2.2 i r m h1 h2).2.2 hb hu hS⟩⟩
theorem upd_belX {S : List Nat} {w w' : World} {B : Nat} (h : Upd S w w') (hS : ∀ k ∈ S, B ≤ k) (hB : B ≤ w.heap.size) : Below B w w' := h.below hS hB
def tabsX : List (List UInt8) := [[117, 115, 101, 114, 115], [101, 118, 101, 110, 116, 115], [109, 101, 116, 97], [108, 111, 103], [], [109, 111, 118, 101, 115], [115, 101, 116, 116, 105, 110, 103, 115], [120, 48, 49]]
def tabsC : Array Value := #[.string ⟨#[117, 115, 101, 114, 115]⟩, .string ⟨#[101, 118, 101, 110, 116, 115]⟩, .string ⟨#[109, 101, 116, 97]⟩, .string ⟨#[108, 111, 103]⟩, .string ⟨#[]⟩, .string ⟨#[109, 111, 118, 101, 115]⟩, .string ⟨#[115, 101, 116, 116, 105, 110, 103, 115]⟩, .string ⟨#[120, 48, 49]⟩]
theorem tabsC_is : tabsC = (tabsX.map fun t => Value.string (B t)).toArray := rfl
theorem tabs_at {i : Nat} {t : List UInt8} (h : tabsX[i]? = some t) : tabsC[i]? = some (.string (B t)) := by
  rw [tabsC_is, List.getElem?_toArray, List.getElem?_map, h]
  rfl
theorem tabs_same : ∀ t ∈ tabsX, indexX t = idxB t 5 := by
  have h : (tabsX.all fun t => decide (indexX t = idxB t 5)) = true := by decide +kernel
  intro t ht
  exact of_decide_eq_true (List.all_eq_true.1 h t ht)
theorem low_extra : Low extraL := fun x hx => by
  have := extra_low x hx
  exact ⟨by omega, by omega⟩
theorem egIxP (args : Array Value) (w : World) : (callFunc 8 args).run Try.prog w = .ok (.enter 8 args) w := enters Try.func8 (by kernel_rfl) (by kernel_rfl) args w
theorem egIxR (args : Array Value) (w : World) : (callFunc 9 args).run Try.prog w = .ok (.enter 9 args) w := enters Try.func9 (by kernel_rfl) (by kernel_rfl) args w
set_option maxHeartbeats 16000000 in
set_option maxRecDepth 100000 in
theorem extraStands_any (w : World) : Calls Try.prog 3 #[] w fun e w' => e = .returned (.bool true) ∧ Below w.heap.size w w' := by
  go_enter Try.func3, Try.ntmps3
  go_wp2_with fail
  refine (extraMoves_any w).mono ?_
  rintro e wa ⟨⟨pa, Ra, rfl, ha, _⟩, hba⟩
  obtain ⟨ga, rfl, hLa⟩ := LeftMv.start ha (Nat.le_refl _) (by omega) extra_low
  have HLa := Lib.hid hLa
  have HA := Lib.hid ha
  have HBa := Lib.hid hba
  clear ha hba hLa
  go_wp2_with fail
  refine (extraMoves_any wa).mono ?_
  rintro e wb ⟨⟨pb, Rb, rfl, hb, _⟩, hbb⟩
  have HBm := Lib.hid hb
  have HBb := Lib.hid hbb
  have HAb := Lib.hid (HA.out.later hbb)
  clear hb hbb
  go_wp2_with fail
  refine (refMoves19_any wb).mono ?_
  rintro e w3 ⟨⟨v3, R3, rfl, h3⟩, hb3⟩
  obtain ⟨p3, c3, rfl⟩ := h3.1.form
  have hl3 : R3.length = 5 := h3.2.1
  rw [hl3] at h3 ⊢
  have H3 := Lib.hid h3
  have HA3 := Lib.hid (HAb.out.later hb3)
  have Hb3 := Lib.hid hb3
  clear h3 hb3
  go_wp2_with fail
  refine (same19_any _ _ _ p3 5 5 c3 Ra R3 extraL (by omega) low_extra w3 HA3.out H3.out).mono ?_
  rintro e w4 ⟨rfl, hb4⟩
  have Hb4 := Lib.hid (then_bel Hb3.out hb4)
  clear hb4
  go_wp2_with fail
  have hba4 := then_bel HBb.out Hb4.out
  have hga : ga < wa.heap.size := HLa.out.2.1
  have hzba := HBa.out.size
  have hzbb := HBb.out.size
  refine (over19_any w.heap.size wa.heap.size ga 5 5 (by omega) w4 hba4.size (HLa.out.keep (Sh.of_below hba4) (hba4.block ga hga))).mono ?_
  rintro e w5 ⟨rfl, hU5⟩
  have HB5 : Hid (NewMv wa.heap.size w5 (.slice pb 5 5) Rb extraL) := Lib.hid (HBm.out.apart Hb4.out hU5 (fun g hg => by have := mem_span.1 hg; omega))
  have hw4 : Below w.heap.size w w4 := then_bel HBa.out hba4
  have HW5 := Lib.hid (hw4.trans (upd_belX hU5 (fun g hg => (mem_span.1 hg).1) hw4.size))
  have hz5 : wa.heap.size ≤ w5.heap.size := Nat.le_trans hba4.size hU5.size
  clear hU5 hba4 hw4
  go_wp2_with fail
  refine (refMoves19_any w5).mono ?_
  rintro e w6 ⟨⟨v6, R6, rfl, h6⟩, hb6⟩
  obtain ⟨p6, c6, rfl⟩ := h6.1.form
  have hl6 : R6.length = 5 := h6.2.1
  rw [hl6] at h6 ⊢
  have H6 := Lib.hid h6
  have HB6 := Lib.hid (HB5.out.later hb6)
  have HW6 := Lib.hid (then_bel HW5.out hb6)
  clear h6 hb6
  go_wp2_with fail
  refine (same19_any _ _ pb p6 5 5 c6 Rb R6 extraL (by omega) low_extra w6 HB6.out H6.out).mono ?_
  rintro e w7 ⟨rfl, hb7⟩
  have hb7m := HB6.out.later hb7
  obtain ⟨gb, rfl, hLb⟩ := LeftMv.start hb7m (Nat.le_refl _) (by omega) extra_low
  have HLb := Lib.hid hLb
  have HW7 := Lib.hid (then_bel HW6.out hb7)
  clear hb7 hb7m hLb
  go_wp2_with fail
  refine (over19_any wa.heap.size w7.heap.size gb 5 5 (by omega) w7 (Nat.le_refl _) HLb.out).mono ?_
  rintro e w8 ⟨rfl, hU8⟩
  have HW8 := Lib.hid (HW7.out.trans (upd_belX hU8 (fun g hg => by have := (mem_span.1 hg).1; omega) HW7.out.size))
  clear hU8
  go_wp2_with fail
  refine (extraMoves_any w8).mono ?_
  rintro e w9 ⟨⟨pc, Rc, rfl, hc, _⟩, hb9⟩
  have HC := Lib.hid hc
  have HW9 := Lib.hid (then_bel HW8.out hb9)
  clear hc hb9
  go_wp2_with fail
  refine (refMoves19_any w9).mono ?_
  rintro e w10 ⟨⟨v10, R10, rfl, h10⟩, hb10⟩
  obtain ⟨p10, c10, rfl⟩ := h10.1.form
  have hl10 : R10.length = 5 := h10.2.1
  rw [hl10] at h10 ⊢
  have H10 := Lib.hid h10
  have HC10 := Lib.hid (HC.out.later hb10)
  have HW10 := Lib.hid (then_bel HW9.out hb10)
  clear h10 hb10
  go_wp2_with fail
  refine (same19_any _ _ pc p10 5 5 c10 Rc R10 extraL (by omega) low_extra w10 HC10.out H10.out).mono ?_
  rintro e w11 ⟨rfl, hb11⟩
  obtain ⟨wT, hwT⟩ : ∃ wT, wT = w11.alloc (.cells tabsC 9) := ⟨_, rfl⟩
  have hkT : wT.heap[w11.heap.size]? = some (.cells tabsC 9 (0, 0)) := by rw [hwT]; exact heap_alloc_new w11 _
  have hbT : Below w11.heap.size w11 wT := by rw [hwT]; exact (Below.refl _ _).alloc (Nat.le_refl _) _
  have HkT := Lib.hid hkT
  have HWT := Lib.hid (then_bel (then_bel HW10.out hb11) hbT)
  unfold tabsC at hwT
  have HT := Lib.hid hwT
  clear hb11 hbT hwT hkT
  go_wp2_with fail
  try rw [← HT.out]
  go_loopw [8] (fun iv wx => ∃ i : Nat, i ≤ 8 ∧ iv = .int .i64 i ∧ Hid (Below wT.heap.size wT wx)) (fun iv _ => 8 - (intOf iv).toNat)
  case atStart => exact ⟨0, by omega, rfl, Lib.hid (Below.refl _ _)⟩
  case round =>
    obtain ⟨i, hi8, rfl, Hbx⟩ := hrel
    obtain ⟨wX, hwX⟩ : ∃ wX, wX = wr := ⟨_, rfl⟩
    subst hwX
    have hi5 : (0 : Int) ≤ (i : Int) := by omega
    by_cases hlt : i < 8
    · obtain ⟨t, ht⟩ : ∃ t, tabsX[i]? = some t := ⟨_, List.getElem?_eq_getElem (by exact hlt)⟩
      have hkX := (Hbx.out.block _ (lt_of_block HkT.out)).trans HkT.out
      have c0 : wX.cell? ⟨w11.heap.size, i, none⟩ = some (.string (B t)) := (cell_in hkX).trans (tabs_at ht)
      have hltX : w11.heap.size < wX.heap.size := lt_of_block hkX
      have HI := Lib.hid fun (W : World) (hW : Below wX.heap.size wX W) => (index_any t W).mono (R' := fun e w' => e = .returned (.string (B (indexX t))) ∧ Below wX.heap.size wX w') fun e w' ⟨h1, h2⟩ => ⟨h1, hW.trans (h2.mono hW.size)⟩
      have HR := Lib.hid fun (W : World) (hW : Below wX.heap.size wX W) => (refIndex19_any t W).mono (R' := fun e w' => e = .returned (.string (B (idxB t 5))) ∧ Below wX.heap.size wX w') fun e w' ⟨h1, h2⟩ => ⟨h1, hW.trans (h2.mono hW.size)⟩
      rw [← tabs_same t (List.mem_of_getElem? ht)] at HR
      obtain ⟨iw, hiw⟩ : ∃ iw, iw = B (indexX t) := ⟨_, rfl⟩
      rw [← hiw] at HI HR
      obtain ⟨tb, htb⟩ : ∃ tb, tb = B t := ⟨_, rfl⟩
      rw [← htb] at HI HR c0
      have hid' : (iw.toList != iw.toList) = false := by simp
      have hidd : (iw.toList == iw.toList) = true := by simp
      have hii : (i : Int) < 8 := by omega
      clear ht hkX hiw htb
      go_wp2_with fail
      go_region_law
        (first
          | (refine step_call (by rfl) 8 _ _ (by rfl) egIxP _ (by rfl) _ _ (HI.out _ (by first | exact HbR.out | exact (Below.refl _ _).drew)) ?_; intro wi hbi; have HbI := Lib.hid hbi; have ci := cell_then c0 hbi; clear hbi)
          | (refine step_call (by rfl) 9 _ _ (by rfl) egIxR _ (by rfl) _ _ (HR.out _ (by first | exact HbI.out | exact (Below.refl _ _).drew)) ?_; intro wj hbj; have HbR := Lib.hid hbj; have cj := cell_then c0 hbj; clear hbj)
          | fail)
      all_goals
        have hzT := Hbx.out.size
        clear c0
        go_wp2_with fail
        go_roundw
        case rel => first
          | exact ⟨i + 1, by omega, by go_num, Lib.hid (Hbx.out.trans (HbR.out.mono hzT))⟩
          | exact ⟨i + 1, by omega, by go_num, Lib.hid (Hbx.out.trans (HbI.out.mono hzT))⟩
        case measure => simp [intOf]; omega
    · obtain rfl : i = 8 := by omega
      have HF := Lib.hid (HWT.out.trans (Hbx.out.mono HWT.out.size))
      go_wp2_with fail
      go_ret
      exact ⟨rfl, HF.out⟩
end Go.Proofs.Ythjcifokmcbaoaa.st
