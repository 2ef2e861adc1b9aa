/- Laws and contracts on which the statement rests, part L: each text says what it proves, and its conditions. -/
import Derived.Test.YthjcifokmcbaoaaGreatDoorMgK
import Derived.Test.YthjcifokmcbaoaaGreatDoorMgI
import Derived.Test.YthjcifokmcbaoaaGreatDoorMgJ
/- law 19: texts, alike, speaks. Conditions: lists of at most 4294967295 elements. -/
namespace Go.Proofs.YthjcifokmcbaoaaGreatDoor.st
open Go.ChangeShapes Go.WideShapes Go.ChangeAt Go.RowKit gl ls

set_option maxHeartbeats 2000000 in
set_option maxRecDepth 100000 in
theorem texts19_any (p p' : Option Addr) (m m' c c' : Nat) (l l' : List (List UInt8)) (hl : m ≤ 4294967295) (hl' : m' ≤ 4294967295) (w : World) (h : Txt w (.slice p m c) l) (h' : Txt w (.slice p' m' c') l') :
    Calls Tryz.prog 46 #[.slice p m c, .slice p' m' c'] w fun e w' => ∃ r : Bool, e = .returned (.bool r) ∧ (l = l' → r = true) ∧ ∃ q, w' = w.drewN q := by
  obtain ⟨hlen, hmc, hptr⟩ := h.ptr
  obtain ⟨hlen', hmc', hptr'⟩ := h'.ptr
  have HS := Lib.hid h
  have HS' := Lib.hid h'
  have Hlen := Lib.hid hlen
  have Hlen' := Lib.hid hlen'
  have Hptr := Lib.hid hptr
  have Hptr' := Lib.hid hptr'
  clear h h' hlen hlen' hptr hptr'
  by_cases hmm : m = m'
  · subst hmm
    go_enter Tryz.func46, Tryz.ntmps46
    go_wp2_with fail
    go_loopw [5] (fun i wr => ∃ j q : Nat, j ≤ m ∧ i = .int .i64 j ∧ wr = w.drewN q) (fun i _ => m - (intOf i).toNat)
    case atStart => exact ⟨0, 0, by omega, rfl, rfl⟩
    case round =>
      obtain ⟨j, q, hj, rfl, rfl⟩ := hrel
      by_cases hlt : j < m
      · obtain ⟨b, o, rfl, hbl⟩ := Hptr.out (by omega)
        obtain ⟨b', o', rfl, hbl'⟩ := Hptr'.out (by omega)
        obtain ⟨x, hx⟩ : ∃ x, l[j]? = some x := ⟨_, List.getElem?_eq_getElem (by rw [Hlen.out]; exact hlt)⟩
        obtain ⟨y, hy⟩ : ∃ y, l'[j]? = some y := ⟨_, List.getElem?_eq_getElem (by rw [Hlen'.out]; exact hlt)⟩
        have c0 := txt_cell HS.out hx
        have d0 := txt_cell HS'.out hy
        have Hs : Hid (l = l' → (!((B x).toList == (B y).toList)) = false) := Lib.hid fun e => by rw [e, hy] at hx; obtain rfl := Option.some.inj hx; simp
        clear hx hy
        have hk1 : (j : Int) < (m : Int) := by omega
        have hk5 : (0 : Int) ≤ (j : Int) := by omega
        cases ht : ((B x).toList == (B y).toList) with
        | true =>
          generalize B x = n1 at *
          generalize B y = n2 at *
          replace c0 : (w.drewN q).cell? ⟨b, o + j, none⟩ = some (.string n1) := c0
          replace d0 : (w.drewN q).cell? ⟨b', o' + j, none⟩ = some (.string n2) := d0
          generalize hq : w.drewN q = wr at *
          have Hq := Lib.hid hq
          clear hq
          go_wp2_with fail
          go_quiet (fail)
          go_wp2_with fail
          go_roundw
          case rel => exact ⟨j + 1, _, by omega, by go_num, by rw [← Hq.out, World.drewN_drewN]⟩
          case measure => simp [intOf]; omega
        | false =>
          rw [ht] at Hs
          generalize B x = n1 at *
          generalize B y = n2 at *
          replace c0 : (w.drewN q).cell? ⟨b, o + j, none⟩ = some (.string n1) := c0
          replace d0 : (w.drewN q).cell? ⟨b', o' + j, none⟩ = some (.string n2) := d0
          generalize hq : w.drewN q = wr at *
          have Hq := Lib.hid hq
          clear hq
          go_wp2_with fail
          go_quiet (fail)
          go_wp2_with fail
          go_ret
          exact ⟨false, rfl, fun e => absurd (Hs.out e) (by simp), _, by rw [← Hq.out, World.drewN_drewN]⟩
      · obtain rfl : j = m := by omega
        go_wp2_with fail
        go_ret
        exact ⟨true, rfl, fun _ => rfl, q, rfl⟩
  · have hmm' : ((m : Int) != (m' : Int)) = true := by simp; omega
    have hne : l ≠ l' := by rintro rfl; exact hmm (by rw [← Hlen.out, ← Hlen'.out])
    have Hne := Lib.hid hne
    clear hmm hne
    go_enter Tryz.func46, Tryz.ntmps46
    go_wp2_with fail
    go_ret
    exact ⟨false, rfl, fun e => absurd e Hne.out, 0, rfl⟩
theorem texts19_same (p p' : Option Addr) (m c c' : Nat) (l : List (List UInt8)) (hl : m ≤ 4294967295) (w : World) (h : Txt w (.slice p m c) l) (h' : Txt w (.slice p' m c') l) :
    Calls Tryz.prog 46 #[.slice p m c, .slice p' m c'] w fun e w' => e = .returned (.bool true) ∧ ∃ q, w' = w.drewN q :=
  (texts19_any p p' m m c c' l l hl hl w h h').mono fun e w' ⟨r, h1, h2, h3⟩ => ⟨by rw [h1, h2 rfl], h3⟩
set_option maxHeartbeats 4000000 in
set_option maxRecDepth 100000 in
theorem alike19_any (i : ByteArray) (pn pn' ps ps' : Option Addr) (nn cn cn' ns cs cs' : Nat) (tx : List (List UInt8)) (st : List Sp) (hn : nn ≤ 4294967295) (hs : ns ≤ 4294967295) (w : World) (h1 : Txt w (.slice pn nn cn) tx) (h1' : Txt w (.slice pn' nn cn') tx) (h2 : Sps w (.slice ps ns cs) st) (h2' : Sps w (.slice ps' ns cs') st) :
    Calls Tryz.prog 48 #[.agg #[.string i, .slice pn nn cn, .slice ps ns cs], .agg #[.string i, .slice pn' nn cn', .slice ps' ns cs']] w fun e w' => e = .returned (.bool true) ∧ Below w.heap.size w w' := by
  obtain ⟨wA, hA⟩ : ∃ wA, wA = w.alloc (.cells #[.string i, .slice pn nn cn, .slice ps ns cs] 36) := ⟨_, rfl⟩
  obtain ⟨wB, hB⟩ : ∃ wB, wB = wA.alloc (.cells #[.string i, .slice pn' nn cn', .slice ps' ns cs'] 36) := ⟨_, rfl⟩
  have zA : wA.heap.size = w.heap.size + 1 := by rw [hA]; simp
  have kA : wA.heap[w.heap.size]? = some (.cells #[.string i, .slice pn nn cn, .slice ps ns cs] 36 (0, 0)) := by rw [hA]; exact heap_alloc_new w _
  have kB : wB.heap[w.heap.size + 1]? = some (.cells #[.string i, .slice pn' nn cn', .slice ps' ns cs'] 36 (0, 0)) := by rw [hB, ← zA]; exact heap_alloc_new wA _
  have kA' : wB.heap[w.heap.size]? = some (.cells #[.string i, .slice pn nn cn, .slice ps ns cs] 36 (0, 0)) := by rw [hB]; exact heap_al kA _
  have hbA : Below w.heap.size w wA := by rw [hA]; exact (Below.refl _ _).alloc (Nat.le_refl _) _
  have hbB : Below w.heap.size w wB := by rw [hB]; exact hbA.alloc (by omega) _
  have zB : wB.heap.size = w.heap.size + 2 := by rw [hB]; simp [zA]
  have c0 : wB.cell? ⟨w.heap.size, 0, none⟩ = some (.string i) := cell_in kA'
  have c1 : wB.cell? ⟨w.heap.size, 1, none⟩ = some (.slice pn nn cn) := cell_in kA'
  have c2 : wB.cell? ⟨w.heap.size, 2, none⟩ = some (.slice ps ns cs) := cell_in kA'
  have d0 : wB.cell? ⟨w.heap.size + 1, 0, none⟩ = some (.string i) := cell_in kB
  have d1 : wB.cell? ⟨w.heap.size + 1, 1, none⟩ = some (.slice pn' nn cn') := cell_in kB
  have d2 : wB.cell? ⟨w.heap.size + 1, 2, none⟩ = some (.slice ps' ns cs') := cell_in kB
  have HT := Lib.hid (texts19_same pn pn' nn cn cn' tx hn wB (h1.later hbB) (h1'.later hbB))
  have HS := Lib.hid (h2.later hbB)
  have HS' := Lib.hid (h2'.later hbB)
  have Hptr := Lib.hid (h2.later hbB).ptr
  have Hptr' := Lib.hid (h2'.later hbB).ptr
  have HbB := Lib.hid hbB
  have HA := Lib.hid hA
  have HB := Lib.hid hB
  have hid' : (i.toList != i.toList) = false := by simp
  have hns : ((ns : Int) != (ns : Int)) = false := by simp
  clear h1 h1' h2 h2' hA hB kA kB kA' hbA hbB zA
  go_enter Tryz.func48, Tryz.ntmps48
  go_upto_region 1 with (fail)
  try rw [← HA.out]
  try rw [← HB.out]
  go_wp2_with fail
  refine HT.out.mono ?_
  rintro e w1 ⟨rfl, q1, rfl⟩
  replace c0 : (wB.drewN q1).cell? ⟨w.heap.size, 0, none⟩ = some (.string i) := c0
  replace c1 : (wB.drewN q1).cell? ⟨w.heap.size, 1, none⟩ = some (.slice pn nn cn) := c1
  replace c2 : (wB.drewN q1).cell? ⟨w.heap.size, 2, none⟩ = some (.slice ps ns cs) := c2
  replace d0 : (wB.drewN q1).cell? ⟨w.heap.size + 1, 0, none⟩ = some (.string i) := d0
  replace d1 : (wB.drewN q1).cell? ⟨w.heap.size + 1, 1, none⟩ = some (.slice pn' nn cn') := d1
  replace d2 : (wB.drewN q1).cell? ⟨w.heap.size + 1, 2, none⟩ = some (.slice ps' ns cs') := d2
  obtain ⟨wC, hC⟩ : ∃ wC, wC = wB.drewN q1 := ⟨_, rfl⟩
  rw [← hC] at c0 c1 c2 d0 d1 d2 ⊢
  have HbC : Hid (Below wB.heap.size wB wC) := Lib.hid (by rw [hC]; exact drewN_bel wB q1)
  clear hC
  go_wp2_with fail
  go_loopw [6] (fun i wr => ∃ j q : Nat, j ≤ ns ∧ i = .int .i64 j ∧ wr = wC.drewN q) (fun i _ => ns - (intOf i).toNat)
  case atStart => exact ⟨0, 0, by omega, rfl, rfl⟩
  case round =>
    obtain ⟨j, q, hj, rfl, rfl⟩ := hrel
    replace c2 : (wC.drewN q).cell? ⟨w.heap.size, 2, none⟩ = some (.slice ps ns cs) := c2
    replace d2 : (wC.drewN q).cell? ⟨w.heap.size + 1, 2, none⟩ = some (.slice ps' ns cs') := d2
    by_cases hlt : j < ns
    · obtain ⟨b, o, rfl, hbl⟩ := Hptr.out.2.2 (by omega)
      obtain ⟨b', o', rfl, hbl'⟩ := Hptr'.out.2.2 (by omega)
      obtain ⟨x, hx⟩ : ∃ x, st[j]? = some x := ⟨_, List.getElem?_eq_getElem (by rw [Hptr.out.1]; exact hlt)⟩
      obtain ⟨k0, k1, k2, k3, k4⟩ := sps_cells (HS.out.later (HbC.out.trans ((drewN_bel wC q).mono HbC.out.size))) hx
      obtain ⟨l0, l1, l2, l3, l4⟩ := sps_cells (HS'.out.later (HbC.out.trans ((drewN_bel wC q).mono HbC.out.size))) hx
      have hne := neq_sp_same x.kind (B x.table) (B x.key) (B x.to) (B x.text)
      generalize B x.table = z1 at *
      generalize B x.key = z2 at *
      generalize B x.to = z3 at *
      generalize B x.text = z4 at *
      have hji : (j : Int) < (ns : Int) := by omega
      have hj5 : (0 : Int) ≤ (j : Int) := by omega
      clear hx
      generalize hq : wC.drewN q = wr at *
      have Hq := Lib.hid hq
      clear hq
      go_wp2_with fail
      go_quiet (fail)
      go_wp2_with fail
      go_roundw
      case rel => exact ⟨j + 1, _, by omega, by go_num, by rw [← Hq.out, World.drewN_drewN]⟩
      case measure => simp [intOf]; omega
    · obtain rfl : j = ns := by omega
      go_wp2_with fail
      go_ret
      exact ⟨rfl, HbB.out.trans ((HbC.out.trans ((drewN_bel wC q).mono HbC.out.size)).mono (by omega))⟩
set_option maxHeartbeats 4000000 in
set_option maxRecDepth 100000 in
theorem speaks19_any (m : Mv) (t : List UInt8) (pn ps : Option Addr) (nn cn ns cs : Nat) (hs : ns ≤ 4294967295) (w : World) (h2 : Sps w (.slice ps ns cs) m.steps) :
    Calls Tryz.prog 45 #[.agg #[.string (B m.id), .slice pn nn cn, .slice ps ns cs], .string (B t)] w fun e w' => e = .returned (.bool (spkM m t)) ∧ Below w.heap.size w w' := by
  obtain ⟨wA, hA⟩ : ∃ wA, wA = w.alloc (.cells #[.string (B m.id), .slice pn nn cn, .slice ps ns cs] 36) := ⟨_, rfl⟩
  have kA : wA.heap[w.heap.size]? = some (.cells #[.string (B m.id), .slice pn nn cn, .slice ps ns cs] 36 (0, 0)) := by rw [hA]; exact heap_alloc_new w _
  have hbA : Below w.heap.size w wA := by rw [hA]; exact (Below.refl _ _).alloc (Nat.le_refl _) _
  have c2 : wA.cell? ⟨w.heap.size, 2, none⟩ = some (.slice ps ns cs) := cell_in kA
  have HS := Lib.hid (h2.later hbA)
  have Hptr := Lib.hid (h2.later hbA).ptr
  have Hr : Hid (spkM m t = m.steps.any (spkS t)) := Lib.hid rfl
  have HA := Lib.hid hA
  have HbA := Lib.hid hbA
  clear h2 hA kA hbA
  generalize spkM m t = r at *
  generalize B m.id = nm at *
  obtain ⟨tt, htt⟩ : ∃ tt, tt = B t := ⟨_, rfl⟩
  rw [← htt]
  have Htt := Lib.hid htt
  clear htt
  go_enter Tryz.func45, Tryz.ntmps45
  go_upto_region 1 with (fail)
  try rw [← HA.out]
  go_wp2_with fail
  go_loopw [5] (fun i wr => ∃ j : Nat, j ≤ ns ∧ i = .int .i64 j ∧ wr = wA ∧ Hid ((m.steps.take j).any (spkS t) = false)) (fun i _ => ns - (intOf i).toNat)
  case atStart => exact ⟨0, by omega, rfl, rfl, Lib.hid rfl⟩
  case round =>
    obtain ⟨j, hj, rfl, rfl, Hno⟩ := hrel
    by_cases hlt : j < ns
    · obtain ⟨b, o, rfl, hbl⟩ := Hptr.out.2.2 (by omega)
      obtain ⟨x, hx⟩ : ∃ x, m.steps[j]? = some x := ⟨_, List.getElem?_eq_getElem (by rw [Hptr.out.1]; exact hlt)⟩
      obtain ⟨k0, k1, k2, k3, k4⟩ := sps_cells HS.out hx
      have q1 := seq_decX x.table t
      have q2 := seq_decX x.to t
      have q3 : (x.kind == 4) = decide (x.kind = 4) := rfl
      have Hsp : Hid (spkS t x = (decide (x.table = t) || (decide (x.kind = 4) && decide (x.to = t)))) := Lib.hid rfl
      have Hnx : Hid ((m.steps.take (j + 1)).any (spkS t) = spkS t x) := Lib.hid (by rw [take_at hx, List.any_append, Hno.out]; simp)
      have Hyes : Hid (spkS t x = true → r = true) := Lib.hid fun h => by rw [Hr.out]; exact List.any_eq_true.2 ⟨x, List.mem_of_getElem? hx, h⟩
      rw [← Htt.out] at q1 q2
      generalize decide (x.table = t) = d1 at *
      generalize decide (x.to = t) = d2 at *
      generalize hd3 : decide (x.kind = 4) = d3 at *
      clear hd3
      generalize x.kind = z0 at *
      generalize B x.table = z1 at *
      generalize B x.key = z2 at *
      generalize B x.to = z3 at *
      generalize B x.text = z4 at *
      generalize spkS t x = s at *
      have hji : (j : Int) < (ns : Int) := by omega
      have hj5 : (0 : Int) ≤ (j : Int) := by omega
      clear hx
      cases d1
      · cases d3
        · go_wp2_with fail
          go_roundw
          case rel => exact ⟨j + 1, by omega, by go_num, trivial, Lib.hid (by rw [Hnx.out, Hsp.out]; rfl)⟩
          case measure => simp [intOf]; omega
        · cases d2
          · go_wp2_with fail
            go_roundw
            case rel => exact ⟨j + 1, by omega, by go_num, trivial, Lib.hid (by rw [Hnx.out, Hsp.out]; rfl)⟩
            case measure => simp [intOf]; omega
          · go_wp2_with fail
            go_ret
            exact ⟨ret_bool (Hyes.out (by rw [Hsp.out]; rfl)), HbA.out⟩
      · go_wp2_with fail
        go_ret
        exact ⟨ret_bool (Hyes.out (by rw [Hsp.out]; rfl)), HbA.out⟩
    · obtain rfl : j = ns := by omega
      have hrf : r = false := by rw [Hr.out]; rw [List.take_of_length_le (by rw [Hptr.out.1]; exact Nat.le_refl _)] at Hno; exact Hno.out
      go_wp2_with fail
      go_ret
      exact ⟨ret_bool hrf, HbA.out⟩
end Go.Proofs.YthjcifokmcbaoaaGreatDoor.st
/- law 19: what the five moves are; own.Add leaves what lies elsewhere. Conditions: those stated. -/
namespace Go.Proofs.YthjcifokmcbaoaaGreatDoor.st
open Go.ChangeShapes Go.WideShapes Go.ChangeAt Go.RowKit gl ls

theorem extra_goodB : (extraL.all goodB) = true := by decide +kernel
theorem extra_good : ∀ m ∈ extraL, GoodMv m := fun m hm => good_mv (List.all_eq_true.1 extra_goodB m hm)
theorem both_asc : AscMv (baseL ++ extraL) := asc_mv _ (by decide +kernel)
/-- The table that a move speaks of first. -/
def tabM (m : Mv) : List UInt8 := match m.steps with
  | s :: _ => s.table
  | [] => []
def idxTo (t : List UInt8) (k : Nat) : List UInt8 := ((((extraL.take k).filter fun m => spkM m t).getLast?).map (·.id)).getD []
theorem idx_step {t : List UInt8} {k : Nat} {m : Mv} (h : extraL[k]? = some m) : idxTo t (k + 1) = if spkM m t = true then m.id else idxTo t k := by
  unfold idxTo
  rw [take_at h, List.filter_append]
  cases hs : spkM m t <;> simp [hs]
theorem extra_at : ∀ i, i < 5 → ∀ m, extraL[i]? = some m → m.steps.length = 1 ∧ m.needs = needTo baseL (tabM m) 6 ++ needTo extraL (tabM m) i ∧ m.needs.length ≠ 0 ∧ idxTo (tabM m) (i + 1) = m.id ∧ idxTo (tabM m) 5 = indexX (tabM m) := by
  have h : ((List.range 5).all fun i => match extraL[i]? with
    | none => true
    | some m => decide (m.steps.length = 1) && decide (m.needs = needTo baseL (tabM m) 6 ++ needTo extraL (tabM m) i) && decide (m.needs.length ≠ 0) && decide (idxTo (tabM m) (i + 1) = m.id) && decide (idxTo (tabM m) 5 = indexX (tabM m))) = true := by decide +kernel
  intro i hi m hm
  have h1 := List.all_eq_true.1 h i (List.mem_range.2 hi)
  rw [hm] at h1
  simp only [Bool.and_eq_true, decide_eq_true_eq] at h1
  obtain ⟨⟨⟨⟨a, b⟩, c⟩, d⟩, e⟩ := h1
  exact ⟨a, b, c, d, e⟩
/-- The ID of the move ahead. -/
def lastTo (i : Nat) : List UInt8 := match i with
  | 0 => []
  | k + 1 => ((extraL[k]?).map (·.id)).getD []
theorem last_lt : ∀ i, i < 5 → ∀ m, extraL[i]? = some m → (ltL m.id (lastTo i) = false ∧ m.id ≠ lastTo i) ∧ lastTo (i + 1) = m.id := by
  have h : ((List.range 5).all fun i => match extraL[i]? with
    | none => true
    | some m => (!ltL m.id (lastTo i)) && decide (m.id ≠ lastTo i) && decide (lastTo (i + 1) = m.id)) = true := by decide +kernel
  intro i hi m hm
  have h1 := List.all_eq_true.1 h i (List.mem_range.2 hi)
  rw [hm] at h1
  simp only [Bool.and_eq_true, decide_eq_true_eq, Bool.not_eq_true'] at h1
  exact h1
set_option maxHeartbeats 4000000 in
set_option maxRecDepth 100000 in
theorem add_far (M b : Nat) (l : List Mv) (m : Mv) (hg : GoodMv m) (ha : AscMv l) (hl : ∀ x ∈ l, ltL x.id m.id = true) (hn : l.length < 64) (pn ps : Option Addr) (nn cn ns cs : Nat) (w : World) (hM : M ≤ w.heap.size) (h1 : Txt w (.slice pn nn cn) m.needs) (h2 : Sps w (.slice ps ns cs) m.steps) (hS : Slo w) (hset : SetIs M w b l) :
    Calls Tryz.prog 23 #[.pointer (some ⟨b, 0, none⟩), .agg #[.string (B m.id), .slice pn nn cn, .slice ps ns cs]] w fun e w' => e = .returned (.int .i64 0) ∧ SetIs M w' b (l ++ [m]) ∧ Below M w w' ∧ ∀ k, k < w.heap.size → k ≠ b → (∀ v, w.heap[b]? = some (.cells #[v] 73 (0, 0)) → v.ownBlock ≠ some k) → w'.heap[k]? = w.heap[k]? := by
  obtain ⟨hMb, v, R, hblk, hrow⟩ := hset
  obtain ⟨wA, hA⟩ : ∃ wA, wA = w.alloc (.cells #[.string (B m.id), .slice pn nn cn, .slice ps ns cs] 36) := ⟨_, rfl⟩
  have kA : wA.heap[w.heap.size]? = some (.cells #[.string (B m.id), .slice pn nn cn, .slice ps ns cs] 36 (0, 0)) := by rw [hA]; exact heap_alloc_new w _
  have zA : wA.heap.size = w.heap.size + 1 := by rw [hA]; simp
  have hbA : Below w.heap.size w wA := by rw [hA]; exact (Below.refl _ _).alloc (Nat.le_refl _) _
  have hnn : nn ≤ 8 := by rw [← h1.ptr.1]; exact hg.few
  have hns : ns ≤ 16 := by rw [← h2.ptr.1]; exact hg.most
  have HR := Lib.hid (rightMv_any m hg pn ps nn cn ns cs wA (h1.later hbA) (h2.later hbA) (hS.later hbA))
  have hrA := hrow.later hbA
  have hkA := (hbA.block b (lt_of_block hblk)).trans hblk
  have HF := Lib.hid fun (W : World) (hb : Below wA.heap.size wA W) => found_any M b v R l m.id (by omega) ha W ((hb.block b (lt_of_block hkA)).trans hkA) (hrA.later hb)
  have HO := Lib.hid fun (W : World) (hb : Below wA.heap.size wA W) => own_anyE m.id pn ps nn cn ns cs m.needs m.steps (by omega) (by omega) W ((h1.later hbA).later hb) ((h2.later hbA).later hb)
  have Hrow := Lib.hid hrA
  have Hblk := Lib.hid hblk
  have Hset := Lib.hid hkA
  have HkA := Lib.hid kA
  have HA := Lib.hid hA
  have HbA := Lib.hid hbA
  have Hl := Lib.hid hl
  have hRl : R.length < 64 := by rw [hrow.2.1]; exact hn
  have HRl := Lib.hid hrow.2.1
  have c0 : wA.cell? ⟨w.heap.size, 0, none⟩ = some (.string (B m.id)) := cell_in kA
  have c1 : wA.cell? ⟨w.heap.size, 1, none⟩ = some (.slice pn nn cn) := cell_in kA
  have c2 : wA.cell? ⟨w.heap.size, 2, none⟩ = some (.slice ps ns cs) := cell_in kA
  obtain ⟨p, c, rfl⟩ := hrow.form
  clear h1 h2 hS hg ha hl hA kA hbA hrow hblk hrA hkA
  generalize hnm : B m.id = nm at *
  have HNm := Lib.hid hnm
  clear hnm
  go_enter Tryz.func23, Tryz.ntmps23
  go_wp2_with fail
  rw [← HA.out]
  refine HR.out.mono ?_
  rintro e w1 ⟨rfl, hb1⟩
  have Hb1 := Lib.hid hb1
  have d0 := cell_then c0 hb1
  clear hb1 c0 c1 c2
  go_wp2_with fail
  refine (HF.out _ Hb1.out).mono ?_
  rintro e w2 ⟨⟨k, is, rfl, hF⟩, hb2⟩
  obtain ⟨rfl, rfl⟩ := found_end hF Hl.out
  have Hb2 := Lib.hid (Hb1.out.trans (hb2.mono Hb1.out.size))
  have hk2 := (Hb2.out.block _ (lt_of_block HkA.out)).trans HkA.out
  have e0 : w2.cell? ⟨w.heap.size, 0, none⟩ = some (.string nm) := cell_in hk2
  have e1 : w2.cell? ⟨w.heap.size, 1, none⟩ = some (.slice pn nn cn) := cell_in hk2
  have e2 : w2.cell? ⟨w.heap.size, 2, none⟩ = some (.slice ps ns cs) := cell_in hk2
  have hs2 := (Hb2.out.block _ (lt_of_block Hset.out)).trans Hset.out
  have f0 : w2.cell? ⟨b, 0, none⟩ = some (.slice p R.length c) := cell_in hs2
  have g0 : w2.frozen? ⟨b, 0, none⟩ = false := free_in hs2
  have HRow2 := Lib.hid (Hrow.out.later Hb2.out)
  have HS2 := Lib.hid hs2
  have q1 : ((R.length : Int) == 64) = false := by simp; omega
  have q2 : (((l.length : Nat) : Int) == 64) = false := by simp; omega
  clear hF hb2 hk2 hs2 d0
  go_wp2_with fail
  rw [← HRl.out]
  go_region_law
    (first
      | (refine step_callE (by rfl) 65 _ _ (by rfl) egOwn _ (by rfl) _ (HO.out _ Hb2.out.drew) ?_; rintro v w3 ⟨⟨r, rfl, hgo, hti⟩, hb3⟩; have HG3 := Lib.hid hgo; have HT3 := Lib.hid hti; have hb23 := (Below.refl w2.heap.size w2).drew.trans hb3; have HB23 := Lib.hid hb23; have f3 := cell_then f0 hb23; obtain ⟨w4, hw4⟩ : ∃ w4, w4 = w3.alloc (.cells #[.string (B r.id), r.vn, r.vs] 36) := ⟨_, rfl⟩; have hb24 : Below w2.heap.size w2 w4 := by { rw [hw4]; exact hb23.alloc hb23.size _ }; have HB24 := Lib.hid hb24; have HI := Lib.hid (insert_any M (.slice p R.length c) R.length (rw.flat mvC R) w3.heap.size r (by omega) w4 (by have := hb24.size; have := Hb2.out.size; omega) (HRow2.out.later hb24).1 (by rw [hw4]; exact heap_alloc_new w3 _)); rw [hw4] at HI; have f4 := cell_then f0 hb24; rw [hw4] at f4; clear hgo hti hb3 hb23 hb24)
      | (refine step_callE (by rfl) 64 _ _ (by rfl) egIns _ (by rfl) _ HI.out ?_; rintro v w5 ⟨hown5, hg5⟩; obtain ⟨p5, c5, rfl⟩ := own_form hown5; rw [← hw4] at hg5; have hs4 := (HB24.out.block _ (lt_of_block HS2.out)).trans HS2.out; have hs5 := set_grown hs4 (HRow2.out.later HB24.out).1 hg5; have f5 := cell_in (o := 0) hs5; simp only [List.getElem?_toArray, List.getElem?_cons_zero] at f5; have g5 : w5.frozen? ⟨b, 0, none⟩ = false := free_in hs5; have HS5 := Lib.hid hs5; have HOwn5 := Lib.hid hown5; have HG5 := Lib.hid hg5; have Hw4 := Lib.hid hw4; clear hown5 hg5 hs4 hs5)
      | fail)
  all_goals
    go_wp2_with fail
    go_ret
    have hR4 := HRow2.out.later HB24.out
    have hs6 : (w5.setCell ⟨b, 0, none⟩ (.slice p5 (R.length + 1) c5)).heap[b]? = some (.cells #[.slice p5 (R.length + 1) c5] 73 (0, 0)) := heap_set (o := 0) HS5.out (.slice p5 (R.length + 1) c5)
    have hgo : ∀ (r' : MvR) (m' : Mv), Goes M w4 r' m' → Goes M (w5.setCell ⟨b, 0, none⟩ (.slice p5 (R.length + 1) c5)) r' m' := fun r' m' h => (goes_grown h hR4.1 HG5.out).far HS5.out (by decide) (by decide) (grown_set _ _ _ _)
    have hb34 : Below w3.heap.size w3 w4 := by rw [Hw4.out]; exact (Below.refl _ _).alloc (Nat.le_refl _) _
    have hgr : Goes M w4 r m := (HG3.out.mono (by have := Hb2.out.size; show M ≤ w2.heap.size; omega)).later hb34
    have hbM : Below M w w4 := (HbA.out.mono hM).trans ((Hb2.out.mono (by omega)).trans (HB24.out.mono (by have := Hb2.out.size; omega)))
    refine ⟨rfl, ⟨hMb, .slice p5 (R.length + 1) c5, R ++ [r], hs6, ?_, ?_, ?_, ?_⟩, ?_, ?_⟩
    · rw [rw.flat_snoc, List.length_append]
      exact own_set HOwn5.out HS5.out _ _
    · rw [List.length_append, List.length_append, HRl.out]
      rfl
    · intro i r' m' hr' hm'
      by_cases hi : i < R.length
      · rw [List.getElem?_append_left hi] at hr'
        rw [List.getElem?_append_left (by rw [← HRl.out]; exact hi)] at hm'
        exact hgo r' m' (hR4.2.2.1 i r' m' hr' hm')
      · rw [List.getElem?_append_right (by omega)] at hr'
        rw [List.getElem?_append_right (by rw [← HRl.out]; omega), ← HRl.out] at hm'
        have h0 := lt_get hr'
        simp only [List.length_singleton] at h0
        rw [show i - R.length = 0 by omega] at hr' hm'
        obtain rfl := Option.some.inj hr'
        obtain rfl := Option.some.inj hm'
        exact hgo _ _ hgr
    · intro r' hr'
      rcases List.mem_append.1 hr' with h | h
      · exact hR4.2.2.2 r' h
      · obtain rfl := List.mem_singleton.1 h
        exact HT3.out
    · exact (hbM.grown HG5.out (by have := HB24.out.size; have := Hb2.out.size; omega) (fun k hk => (hR4.1.lt k hk).1)).setCell hMb _
    · intro k hk hkb hv
      have hq := hv _ Hblk.out
      have hb04 : Below w.heap.size w w4 := HbA.out.trans ((Hb2.out.mono (by omega)).trans (HB24.out.mono (by have := Hb2.out.size; omega)))
      refine (heap_setCell_other w5 ⟨b, 0, none⟩ k _ hkb).trans ((HG5.out.block k (by have := hb04.size; omega) (fun e => hq e.symm)).trans (hb04.block k hk))
end Go.Proofs.YthjcifokmcbaoaaGreatDoor.st
/- ExtraNeeds returns true. Condition: the listed variables hold what the program's text lays. -/
namespace Go.Proofs.YthjcifokmcbaoaaGreatDoor.st
open Go.ChangeShapes Go.WideShapes Go.ChangeAt Go.RowKit gl ls

theorem irrX (a : List UInt8) : ltL a a = false := by
  have h : ∀ a : List UInt8, ltL a a = false := by
    intro a
    induction a with
    | nil => rfl
    | cons x r ih => simp only [ltL, Op.bytesLess] at ih ⊢; simp [ih]
  exact h a
theorem found_mem {l : List Mv} {t : List UInt8} {k j : Nat} {is : Bool} {m : Mv} (ha : AscMv l) (h : FoundAt (l.map (·.id)) t k is) (hj : l[j]? = some m) (ht : m.id = t) : k = j ∧ is = true := by
  obtain ⟨h1, h2, h3⟩ := h
  have hx : (l.map (·.id))[j]? = some t := by rw [List.getElem?_map, hj, ← ht]; rfl
  have hjk : ¬ j < k := fun hlt => by
    have := (h2 j t hx).1 hlt
    rw [irrX] at this
    cases this
  have hkj : k = j := by
    rcases Nat.lt_or_ge k j with hlt | hge
    · have hkl : k < l.length := by have := lt_get hj; omega
      have hy : (l.map (·.id))[k]? = some l[k].id := by rw [List.getElem?_map, List.getElem?_eq_getElem hkl]; rfl
      have h4 := pair_at (S := fun a b => ltL a b = true) ha hy hx hlt
      have := (h2 k _ hy).2 h4
      omega
    · omega
  subst hkj
  exact ⟨rfl, by rw [h3, hx]; simp⟩
theorem SetIs.later {M b : Nat} {w w' : World} {l : List Mv} (h : SetIs M w b l) (hb : Below w.heap.size w w') : SetIs M w' b l := by
  obtain ⟨h1, v, R, h2, h3⟩ := h
  exact ⟨h1, v, R, (hb.block b (lt_of_block h2)).trans h2, h3.later hb⟩
theorem both_at {i : Nat} {m : Mv} (h : extraL[i]? = some m) : (baseL ++ extraL)[6 + i]? = some m := by
  rw [List.getElem?_append_right (by exact Nat.le_add_right _ _)]
  rw [show 6 + i - baseL.length = i from Nat.add_sub_cancel_left 6 i]
  exact h
theorem both_take (i : Nat) : (baseL ++ extraL).take (6 + i) = baseL ++ extraL.take i := by
  rw [List.take_append, List.take_of_length_le (by exact Nat.le_add_right _ _), show 6 + i - baseL.length = i from Nat.add_sub_cancel_left 6 i]
theorem low_both (i : Nat) : Low (baseL ++ extraL.take i) := by
  intro x hx
  rcases List.mem_append.1 hx with h | h
  · exact low_base x h
  · have := extra_low x (List.mem_of_mem_take h)
    exact ⟨by omega, by omega⟩
set_option maxHeartbeats 16000000 in
set_option maxRecDepth 100000 in
theorem extraNeeds_any (w : World) (hS : Slo w) : Calls Tryz.prog 12 #[] w fun e w' => e = .returned (.bool true) ∧ Below w.heap.size w w' := by
  have HSl := Lib.hid fun (W : World) (hb : Below w.heap.size w W) => hS.later hb
  obtain ⟨i0, hi, hz0, hz1, hz2⟩ := info_parts infoTx
  clear hS
  go_enter Tryz.func12, Tryz.ntmps12
  go_wp2_with fail
  refine (extraMoves_any w).mono ?_
  rintro e w1 ⟨⟨p1, R1, rfl, h1, ht1⟩, hb1⟩
  have hl1 : R1.length = 5 := h1.2.1
  obtain ⟨bL, oL, rfl, hbL⟩ := (h1.1.rw mvC_len).ptr.2.2 (by omega)
  have H1 := Lib.hid h1
  have HB1 := Lib.hid hb1
  clear h1 hb1
  go_wp2_with fail
  refine (moves_any w1).mono ?_
  rintro e w2 ⟨⟨v2, R2, rfl, h2⟩, hb2⟩
  obtain ⟨p2, c2, rfl⟩ := h2.1.form
  have hl2 : R2.length = 6 := h2.2.1
  obtain ⟨bB, oB, rfl, hbB⟩ := (h2.1.rw mvC_len).ptr.2.2 (by omega)
  rw [hl2] at h2 ⊢
  have H2 := Lib.hid h2
  have H12 := Lib.hid (H1.out.later hb2)
  have hzz2 := hb2.size
  have HB2 := Lib.hid (then_bel HB1.out hb2)
  clear h2 hb2
  go_wp2_with fail
  refine (new_any w2).mono ?_
  rintro e w3 ⟨rfl, hset, hb3, hz3⟩
  have HSet := Lib.hid hset
  have Hb3 := Lib.hid hb3
  clear hset hb3
  go_wp2_with fail
  go_loopw [4] (fun iv wr => ∃ i : Nat, i ≤ 6 ∧ iv = .int .i64 i ∧ Hid (SetIs w2.heap.size wr w2.heap.size (baseL.take i)) ∧ Hid (Below w2.heap.size w2 wr) ∧ w3.heap.size ≤ wr.heap.size) (fun iv _ => 6 - (intOf iv).toNat)
  case atStart => exact ⟨0, by omega, rfl, HSet, Hb3, Nat.le_refl _⟩
  case round =>
    clear HSet
    obtain ⟨i, hi', rfl, HSet, HBx, hzx'⟩ := hrel
    by_cases hlti : i < 6
    · have hBr := H2.out.later HBx.out
      obtain ⟨x, hx⟩ : ∃ x, R2[i]? = some x := ⟨_, List.getElem?_eq_getElem (by rw [hl2]; exact hlti)⟩
      obtain ⟨m, hm⟩ : ∃ m, baseL[i]? = some m := ⟨_, List.getElem?_eq_getElem (by exact hlti)⟩
      obtain ⟨k0, k1, k2⟩ := mv_cells (hBr.1.rw mvC_len) hx
      have hg := hBr.2.2 i x m hx hm
      obtain ⟨tx, sp⟩ := goes_txt hg
      rw [hg.1] at k0
      obtain ⟨xi, pn, nn, cn, ps, ns, cs⟩ := x
      simp only [MvR.vn, MvR.vs] at k1 k2 tx sp
      obtain ⟨ha1, ha2⟩ := asc_take base_asc hm
      have hbw : Below w.heap.size w wr := then_bel HB2.out HBx.out
      have HAdd := Lib.hid (add_any w2.heap.size w2.heap.size (baseL.take i) m (base_good m (List.mem_of_getElem? hm)) ha1 ha2 (by rw [List.length_take]; omega) pn ps nn cn ns cs wr HBx.out.size tx sp (HSl.out wr hbw) HSet.out)
      have Htk := Lib.hid (take_at hm)
      have hbbr : bB < wr.heap.size := by omega
      have hii : (i : Int) < 6 := by omega
      have hi5 : (0 : Int) ≤ (i : Int) := by omega
      clear hBr hg tx sp hx hm ha1 ha2 hbw
      generalize B m.id = nm at *
      go_wp2_with fail
      refine HAdd.out.mono ?_
      rintro e w12 ⟨rfl, hset, hb12⟩
      have HS12 : Hid (SetIs w2.heap.size w12 w2.heap.size (baseL.take (i + 1))) := Lib.hid (by rw [Htk.out]; exact hset)
      have HB12 := Lib.hid (HBx.out.trans hb12)
      have hz12 := hb12.size
      clear hset hb12
      go_wp2_with fail
      go_roundw
      case rel => exact ⟨i + 1, by omega, by go_num, HS12, HB12, by omega⟩
      case measure => simp [intOf]; omega
    · obtain rfl : i = 6 := by omega
      rw [show ((6 : Nat) : Int) = 6 from rfl]
      have hs6 : SetIs w2.heap.size wr w2.heap.size (baseL ++ extraL.take 0) := by rw [List.take_zero, List.append_nil]; exact HSet.out
      have HS6 := Lib.hid hs6
      clear hs6 HSet
      go_wp2_with fail
      go_loopw [6, 7] (fun lv iv wr => ∃ (i : Nat) (v : Value), i ≤ 5 ∧ iv = .int .i64 i ∧ v = lv ∧ v = .string (B (lastTo i)) ∧ Hid (SetIs w2.heap.size wr w2.heap.size (baseL ++ extraL.take i)) ∧ Hid (Below w2.heap.size w2 wr) ∧ w3.heap.size ≤ wr.heap.size) (fun _ iv _ => 5 - (intOf iv).toNat)
      case atStart => exact ⟨0, _, by omega, rfl, rfl, rfl, HS6, HBx, hzx'⟩
      case round =>
        clear HS6 HBx hzx'
        obtain ⟨i, v, hi', rfl, rfl, hv, HSet, HBx, hzx'⟩ := hrel
        subst hv
        obtain ⟨wO, hwO⟩ : ∃ wO, wO = wr := ⟨_, rfl⟩
        subst hwO
        by_cases hlti : i < 5
        · have hLr := H12.out.later HBx.out
          obtain ⟨x, hx⟩ : ∃ x, R1[i]? = some x := ⟨_, List.getElem?_eq_getElem (by rw [hl1]; exact hlti)⟩
          obtain ⟨m, hm⟩ : ∃ m, extraL[i]? = some m := ⟨_, List.getElem?_eq_getElem (by exact hlti)⟩
          obtain ⟨k0, k1, k2⟩ := mv_cells (hLr.1.rw mvC_len) hx
          have hg := hLr.2.2 i x m hx hm
          have HG := Lib.hid fun (W : World) (hW : Below w2.heap.size w2 W) => (H12.out.later hW).2.2 i x m hx hm
          obtain ⟨tx, sp⟩ := goes_txt hg
          rw [hg.1] at k0
          obtain ⟨e1, e2, e3, e4, e5⟩ := extra_at i hlti m hm
          obtain ⟨⟨u1, u2⟩, u3⟩ := last_lt i hlti m hm
          obtain ⟨xi, pn, nn, cn, ps, ns, cs⟩ := x
          simp only [MvR.vn, MvR.vs] at k1 k2 tx sp
          have hns : ns = 1 := by rw [← sp.ptr.1]; exact e1
          subst hns
          have hnn : m.needs.length = nn := tx.ptr.1
          obtain ⟨bs, os, rfl, hbs⟩ := sp.ptr.2.2 (by omega)
          obtain ⟨s, hs⟩ : ∃ s, m.steps[0]? = some s := ⟨_, List.getElem?_eq_getElem (by omega)⟩
          have htab : tabM m = s.table := by
            unfold tabM
            cases hst : m.steps with
            | nil => rw [hst] at hs; cases hs
            | cons a r => rw [hst] at hs; cases hs; rfl
          rw [htab] at e2 e4 e5
          obtain ⟨s0, s1, s2, s3, s4⟩ := sps_cells sp hs
          have q1 : Op.bytesLess (B m.id).toList (B (lastTo i)).toList = false := by rw [lt_bool, B_list, B_list]; exact u1
          have q2 : ((B m.id).toList == (B (lastTo i)).toList) = false := seq_false (fun e => u2 (B_inj e))
          obtain ⟨wA, hA⟩ : ∃ wA, wA = wO.alloc (.cells #[.string (B m.id), .slice pn nn cn, .slice (some ⟨bs, os, none⟩) 1 cs] 36) := ⟨_, rfl⟩
          have kA : wA.heap[wO.heap.size]? = some (.cells #[.string (B m.id), .slice pn nn cn, .slice (some ⟨bs, os, none⟩) 1 cs] 36 (0, 0)) := by rw [hA]; exact heap_alloc_new wO _
          have hbA : Below wO.heap.size wO wA := by rw [hA]; exact (Below.refl _ _).alloc (Nat.le_refl _) _
          have hzA : wO.heap.size < wA.heap.size := by rw [hA]; simp
          have HA2 := Lib.hid (HBx.out.trans (hbA.mono HBx.out.size))
          have HKA := Lib.hid kA
          have HA := Lib.hid hA
          have HbA := Lib.hid hbA
          have Htx := Lib.hid (tx.later hbA)
          have Hsp := Lib.hid (sp.later hbA)
          have He2 := Lib.hid e2
          have He4 := Lib.hid e4
          have He5 := Lib.hid e5
          have Hu3 := Lib.hid u3
          have Hnn := Lib.hid hnn
          have Hm := Lib.hid hm
          have hn1 : 1 ≤ nn := by omega
          have hn2 : nn ≤ 1000 := by rw [← hnn]; exact (extra_low m (List.mem_of_getElem? hm)).1
          have hbLr : bL < wO.heap.size := by have := HBx.out.size; omega
          have hbsr : bs < wO.heap.size := hbs
          have hii : (i : Int) < 5 := by omega
          have hi5 : (0 : Int) ≤ (i : Int) := by omega
          simp only [Nat.zero_mul, Nat.add_zero] at s1
          obtain ⟨nm, hnm⟩ : ∃ nm, nm = B m.id := ⟨_, rfl⟩
          obtain ⟨tb, htb⟩ : ∃ tb, tb = B s.table := ⟨_, rfl⟩
          rw [← hnm] at k0 q1 q2 HA HKA
          rw [← htb] at s1
          have Hnm := Lib.hid hnm
          have Htb := Lib.hid htb
          clear hLr hx hm hg tx sp e1 e2 e3 e4 e5 u1 u2 u3 hnn hs htab s0 s2 s3 s4 hA kA hbA hbs hnm htb
          generalize B (lastTo i) = lv at *
          go_wp2_with fail
          try rw [← HA.out]
          go_loopw [10, 11] (fun wv kv wx => ∃ (k : Nat) (v : Value), k ≤ 6 ∧ kv = .int .i64 k ∧ v = wv ∧ Hid (wx.ownsRow wA.heap.size 9 1 v (needTo baseL s.table k).length (rw.flat txC (needTo baseL s.table k))) ∧ Hid (Below wA.heap.size wA wx)) (fun _ kv _ => 6 - (intOf kv).toNat)
          case atStart => exact ⟨0, _, by omega, rfl, rfl, Lib.hid ⟨rfl, .inl ⟨rfl, rfl⟩⟩, Lib.hid (Below.refl _ _)⟩
          case round =>
            clear q1 q2 s1 k0 k1 k2
            obtain ⟨k, v, hk, rfl, rfl, HOk, Hbk⟩ := hrel
            obtain ⟨wX, hwX⟩ : ∃ wX, wX = wr := ⟨_, rfl⟩
            subst hwX
            have hzX := Hbk.out.size
            have HPX := Lib.hid (HA2.out.trans (Hbk.out.mono HA2.out.size))
            by_cases hltk : k < 6
            · have hsr := H2.out.later HPX.out
              obtain ⟨r, hr⟩ : ∃ r, R2[k]? = some r := ⟨_, List.getElem?_eq_getElem (by rw [hl2]; omega)⟩
              obtain ⟨m2, hm2⟩ : ∃ m2, baseL[k]? = some m2 := ⟨_, List.getElem?_eq_getElem (by have : baseL.length = 6 := rfl; omega)⟩
              obtain ⟨l0, l1', l2'⟩ := mv_cells (hsr.1.rw mvC_len) hr
              have hg2 := hsr.2.2 k r m2 hr hm2
              obtain ⟨tx2, sp2⟩ := goes_txt hg2
              rw [hg2.1] at l0
              have hnext : (needTo baseL s.table (k + 1)) = if spkM m2 s.table = true then (needTo baseL s.table k) ++ [m2.id] else (needTo baseL s.table k) := need_step (t := s.table) hm2
              have hnl : (needTo baseL s.table k).length ≤ k := need_le _ _ _
              obtain ⟨xi2, pn2, nn2, cn2, ps2, ns2, cs2⟩ := r
              simp only [MvR.vn, MvR.vs] at l1' l2' tx2 sp2
              have hst2 : ns2 ≤ 4294967295 := by
                rw [← sp2.ptr.1]
                exact (low_base m2 (List.mem_of_getElem? hm2)).2
              have HSpk := Lib.hid (speaks19_any m2 s.table pn2 ps2 nn2 cn2 ns2 cs2 hst2 wX sp2)
              rw [← Htb.out] at HSpk
              have Hnext := Lib.hid hnext
              have hbr : bB < wX.heap.size := by have := HPX.out.size; omega
              have hki : (k : Int) < 6 := by omega
              have hki2 : (k : Int) < 6 := by omega
              have hk5 : (0 : Int) ≤ (k : Int) := by omega
              obtain ⟨n0, hn0⟩ : ∃ n0, n0 = (needTo baseL s.table k).length := ⟨_, rfl⟩
              have HOn := HOk
              rw [← hn0] at HOn hnl
              have Hn0 := Lib.hid hn0
              clear hsr hr hg2 tx2 sp2 hst2 hnext hn0 hm2
              cases hspk : spkM m2 s.table with
              | false =>
                rw [hspk] at HSpk
                have Hspk := Lib.hid hspk
                clear hspk
                generalize B m2.id = nm2 at *
                go_wp2_with fail
                refine HSpk.out.mono ?_
                rintro e w7 ⟨rfl, hb7⟩
                have HO7 := Lib.hid (own_laterX HOk.out hb7)
                have Hb7 := Lib.hid (Hbk.out.trans (hb7.mono hzX))
                have HN7 := Lib.hid Hnext.out
                rw [Hspk.out] at HN7
                simp only [Bool.false_eq_true, if_false] at HN7
                clear hb7
                go_wp2_with fail
                go_roundw
                case rel => exact ⟨k + 1, _, by omega, by go_num, rfl, by rw [HN7.out]; exact HO7, Hb7⟩
                case measure => simp [intOf]; omega
              | true =>
                rw [hspk] at HSpk
                have Hspk := Lib.hid hspk
                clear hspk
                obtain ⟨nm2, hnm2⟩ : ∃ nm2, nm2 = B m2.id := ⟨_, rfl⟩
                rw [← hnm2] at l0 HSpk
                have Hnm2 := Lib.hid hnm2
                clear hnm2
                go_wp2_with fail
                refine HSpk.out.mono ?_
                rintro e w7 ⟨rfl, hb7⟩
                have d0 := cell_then l0 hb7
                have HO7 := Lib.hid (own_laterX HOn.out hb7)
                have Hb7 := Lib.hid (Hbk.out.trans (hb7.mono hzX))
                have HN7 := Lib.hid Hnext.out
                rw [Hspk.out] at HN7
                simp only [if_true] at HN7
                have hz7 := Hb7.out.size
                have hbr7 : bB < w7.heap.size := by have := hb7.size; omega
                clear hb7 l0 l1' l2'
                focus
                  go_wp2_with (at_builtin; go_must (refine wpList_append_lit rfl _ _ 24 rfl 9 i0 _ 16 Tryz.underlying24 hi hz0 hz1 hz2 rfl _ 1 (by omega) (by rfl) (by rfl) wA.heap.size _ n0 _ (by rfl) HO7.out (by simp [Value.oneCell']) (by omega) (by omega) (by omega) ?_))
                intro g cap w10 hown hgrow _ _ _
                have HB10 := Lib.hid (below_grown_own Hb7.out HO7.out hgrow hz7)
                have HO10 : Hid (w10.ownsRow wA.heap.size 9 1 (.slice (some ⟨g, 0, none⟩) (n0 + 1) cap) (needTo baseL s.table (k + 1)).length (rw.flat txC (needTo baseL s.table (k + 1)))) := Lib.hid (by
                  rw [HN7.out, List.length_append, ← Hn0.out, rw.flat_snoc]
                  rw [show txC m2.id = [.string nm2] by unfold txC; rw [Hnm2.out]]
                  exact hown)
                clear hown hgrow
                go_wp2_with fail
                go_roundw
                case rel => exact ⟨k + 1, _, by omega, by go_num, rfl, HO10, HB10⟩
                case measure => simp [intOf]; omega
            · obtain rfl : k = 6 := by omega
              rw [show ((6 : Nat) : Int) = 6 from rfl]
              have HOc : Hid (wX.ownsRow wA.heap.size 9 1 v (needTo baseL s.table 6 ++ needTo extraL s.table 0).length (rw.flat txC (needTo baseL s.table 6 ++ needTo extraL s.table 0))) := Lib.hid (by rw [show needTo extraL s.table 0 = [] from rfl, List.append_nil]; exact HOk.out)
              go_wp2_with fail
              go_loopw [10, 13] (fun wv kv wx => ∃ (k : Nat) (v : Value), k ≤ i ∧ kv = .int .i64 k ∧ v = wv ∧ Hid (wx.ownsRow wA.heap.size 9 1 v (needTo baseL s.table 6 ++ needTo extraL s.table k).length (rw.flat txC (needTo baseL s.table 6 ++ needTo extraL s.table k))) ∧ Hid (Below wA.heap.size wA wx)) (fun _ kv _ => i - (intOf kv).toNat)
              case atStart => exact ⟨0, _, by omega, rfl, rfl, HOc, Hbk⟩
              case round =>
                clear HOc HOk HPX Hbk hzX
                obtain ⟨k, v, hk, rfl, rfl, HOk, Hbk⟩ := hrel
                obtain ⟨wX, hwX⟩ : ∃ wX, wX = wr := ⟨_, rfl⟩
                subst hwX
                have hzX := Hbk.out.size
                have HPX := Lib.hid (HA2.out.trans (Hbk.out.mono HA2.out.size))
                by_cases hltk : k < i
                · have hsr := H12.out.later HPX.out
                  obtain ⟨r, hr⟩ : ∃ r, R1[k]? = some r := ⟨_, List.getElem?_eq_getElem (by rw [hl1]; omega)⟩
                  obtain ⟨m2, hm2⟩ : ∃ m2, extraL[k]? = some m2 := ⟨_, List.getElem?_eq_getElem (by have : extraL.length = 5 := rfl; omega)⟩
                  obtain ⟨l0, l1', l2'⟩ := mv_cells (hsr.1.rw mvC_len) hr
                  have hg2 := hsr.2.2 k r m2 hr hm2
                  obtain ⟨tx2, sp2⟩ := goes_txt hg2
                  rw [hg2.1] at l0
                  have hnext : (needTo baseL s.table 6 ++ needTo extraL s.table (k + 1)) = if spkM m2 s.table = true then (needTo baseL s.table 6 ++ needTo extraL s.table k) ++ [m2.id] else (needTo baseL s.table 6 ++ needTo extraL s.table k) := (by rw [need_step (t := s.table) hm2]; split <;> simp [List.append_assoc])
                  have hnl : (needTo baseL s.table 6 ++ needTo extraL s.table k).length ≤ 6 + k := (by rw [List.length_append]; have h1 := need_le baseL s.table 6; have h2 := need_le extraL s.table k; omega)
                  obtain ⟨xi2, pn2, nn2, cn2, ps2, ns2, cs2⟩ := r
                  simp only [MvR.vn, MvR.vs] at l1' l2' tx2 sp2
                  have hst2 : ns2 ≤ 4294967295 := by
                    rw [← sp2.ptr.1]
                    have := (extra_low m2 (List.mem_of_getElem? hm2)).2; omega
                  have HSpk := Lib.hid (speaks19_any m2 s.table pn2 ps2 nn2 cn2 ns2 cs2 hst2 wX sp2)
                  rw [← Htb.out] at HSpk
                  have Hnext := Lib.hid hnext
                  have hbr : bL < wX.heap.size := by have := HPX.out.size; omega
                  have hki : (k : Int) < (i : Int) := by omega
                  have hki2 : (k : Int) < 5 := by omega
                  have hk5 : (0 : Int) ≤ (k : Int) := by omega
                  obtain ⟨n0, hn0⟩ : ∃ n0, n0 = (needTo baseL s.table 6 ++ needTo extraL s.table k).length := ⟨_, rfl⟩
                  have HOn := HOk
                  rw [← hn0] at HOn hnl
                  have Hn0 := Lib.hid hn0
                  clear hsr hr hg2 tx2 sp2 hst2 hnext hn0 hm2
                  cases hspk : spkM m2 s.table with
                  | false =>
                    rw [hspk] at HSpk
                    have Hspk := Lib.hid hspk
                    clear hspk
                    generalize B m2.id = nm2 at *
                    go_wp2_with fail
                    refine HSpk.out.mono ?_
                    rintro e w7 ⟨rfl, hb7⟩
                    have HO7 := Lib.hid (own_laterX HOk.out hb7)
                    have Hb7 := Lib.hid (Hbk.out.trans (hb7.mono hzX))
                    have HN7 := Lib.hid Hnext.out
                    rw [Hspk.out] at HN7
                    simp only [Bool.false_eq_true, if_false] at HN7
                    clear hb7
                    go_wp2_with fail
                    go_roundw
                    case rel => exact ⟨k + 1, _, by omega, by go_num, rfl, by rw [HN7.out]; exact HO7, Hb7⟩
                    case measure => simp [intOf]; omega
                  | true =>
                    rw [hspk] at HSpk
                    have Hspk := Lib.hid hspk
                    clear hspk
                    obtain ⟨nm2, hnm2⟩ : ∃ nm2, nm2 = B m2.id := ⟨_, rfl⟩
                    rw [← hnm2] at l0 HSpk
                    have Hnm2 := Lib.hid hnm2
                    clear hnm2
                    go_wp2_with fail
                    refine HSpk.out.mono ?_
                    rintro e w7 ⟨rfl, hb7⟩
                    have d0 := cell_then l0 hb7
                    have HO7 := Lib.hid (own_laterX HOn.out hb7)
                    have Hb7 := Lib.hid (Hbk.out.trans (hb7.mono hzX))
                    have HN7 := Lib.hid Hnext.out
                    rw [Hspk.out] at HN7
                    simp only [if_true] at HN7
                    have hz7 := Hb7.out.size
                    have hbr7 : bL < w7.heap.size := by have := hb7.size; omega
                    clear hb7 l0 l1' l2'
                    focus
                      go_wp2_with (at_builtin; go_must (refine wpList_append_lit rfl _ _ 24 rfl 9 i0 _ 16 Tryz.underlying24 hi hz0 hz1 hz2 rfl _ 1 (by omega) (by rfl) (by rfl) wA.heap.size _ n0 _ (by rfl) HO7.out (by simp [Value.oneCell']) (by omega) (by omega) (by omega) ?_))
                    intro g cap w10 hown hgrow _ _ _
                    have HB10 := Lib.hid (below_grown_own Hb7.out HO7.out hgrow hz7)
                    have HO10 : Hid (w10.ownsRow wA.heap.size 9 1 (.slice (some ⟨g, 0, none⟩) (n0 + 1) cap) (needTo baseL s.table 6 ++ needTo extraL s.table (k + 1)).length (rw.flat txC (needTo baseL s.table 6 ++ needTo extraL s.table (k + 1)))) := Lib.hid (by
                      rw [HN7.out, List.length_append, ← Hn0.out, rw.flat_snoc]
                      rw [show txC m2.id = [.string nm2] by unfold txC; rw [Hnm2.out]]
                      exact hown)
                    clear hown hgrow
                    go_wp2_with fail
                    go_roundw
                    case rel => exact ⟨k + 1, _, by omega, by go_num, rfl, HO10, HB10⟩
                    case measure => simp [intOf]; omega
                · obtain rfl : i = k := by omega
                  rw [← He2.out] at HOk
                  have hOk := HOk.out
                  rw [Hnn.out] at hOk
                  obtain ⟨pw, cw, rfl⟩ := own_formX hOk
                  rw [Hnn.out] at HOk
                  have hkX := (Hbk.out.block _ (lt_of_block HKA.out)).trans HKA.out
                  have a0 : wX.cell? ⟨wO.heap.size, 0, none⟩ = some (.string nm) := cell_in hkX
                  have a1 : wX.cell? ⟨wO.heap.size, 1, none⟩ = some (.slice pn nn cn) := cell_in hkX
                  have a2 : wX.cell? ⟨wO.heap.size, 2, none⟩ = some (.slice (some ⟨bs, os, none⟩) 1 cs) := cell_in hkX
                  have HT := Lib.hid (texts19_same pn pw nn cn cw m.needs (by omega) wX (Htx.out.later Hbk.out) ((rw.own_new txC_len (by decide) hOk).rw txC_len))
                  have Hkx := Lib.hid hkX
                  clear hOk HOk hkX
                  go_wp2_with fail
                  refine HT.out.mono ?_
                  rintro e wT ⟨rfl, q, hwT⟩
                  have hbT : Below wX.heap.size wX wT := by rw [hwT]; exact drewN_bel wX q
                  have HbT := Lib.hid (Hbk.out.trans (hbT.mono hzX))
                  have hkT := (hbT.block _ (lt_of_block Hkx.out)).trans Hkx.out
                  have b0 : wT.cell? ⟨wO.heap.size, 0, none⟩ = some (.string nm) := cell_in hkT
                  have b1 : wT.cell? ⟨wO.heap.size, 1, none⟩ = some (.slice pn nn cn) := cell_in hkT
                  have b2 : wT.cell? ⟨wO.heap.size, 2, none⟩ = some (.slice (some ⟨bs, os, none⟩) 1 cs) := cell_in hkT
                  have HPT := Lib.hid (HA2.out.trans (HbT.out.mono HA2.out.size))
                  obtain ⟨hSb, vS, RS, hS1, hS2⟩ := HSet.out
                  have hOT : Below wO.heap.size wO wT := then_bel HbA.out HbT.out
                  have hsetT : SetIs w2.heap.size wT w2.heap.size (baseL ++ extraL.take i) := ⟨hSb, vS, RS, (hOT.block _ (lt_of_block hS1)).trans hS1, hS2.later hOT⟩
                  obtain ⟨ha1, ha2⟩ := asc_take both_asc (both_at Hm.out)
                  rw [both_take] at ha1 ha2
                  have HAdd := Lib.hid (add_far w2.heap.size w2.heap.size (baseL ++ extraL.take i) m (extra_good m (List.mem_of_getElem? Hm.out)) ha1 ha2 (by rw [List.length_append, List.length_take]; have : baseL.length = 6 := rfl; omega) pn (some ⟨bs, os, none⟩) nn cn 1 cs wT HPT.out.size (Htx.out.later HbT.out) (Hsp.out.later HbT.out) (HSl.out wT (then_bel HB2.out HPT.out)) hsetT)
                  rw [← Hnm.out] at HAdd
                  have HfarT : Hid (wO.heap.size < wT.heap.size ∧ wO.heap.size ≠ w2.heap.size ∧ ∀ v, wT.heap[w2.heap.size]? = some (.cells #[v] 73 (0, 0)) → v.ownBlock ≠ some wO.heap.size) := Lib.hid ⟨lt_of_block hkT, by omega, fun v hv e => by
                    rw [(hOT.block _ (lt_of_block hS1)).trans hS1] at hv
                    cases hv
                    have := (hS2.1.lt _ e).2
                    omega⟩
                  have HKT := Lib.hid hkT
                  clear hbT hkT hwT a0 a1 a2 hSb hS1 hS2 hOT hsetT ha1 ha2
                  go_wp2_with fail
                  refine HAdd.out.mono ?_
                  rintro e w8 ⟨rfl, hset8, hb8, hfar⟩
                  have hk8 := (hfar _ HfarT.out.1 HfarT.out.2.1 HfarT.out.2.2).trans HKT.out
                  have htk : baseL ++ extraL.take i ++ [m] = baseL ++ extraL.take (i + 1) := by rw [take_at Hm.out, List.append_assoc]
                  rw [htk] at hset8
                  have HP8 := Lib.hid (HPT.out.trans hb8)
                  have HK8 := Lib.hid hk8
                  have c0 : w8.cell? ⟨wO.heap.size, 0, none⟩ = some (.string nm) := cell_in hk8
                  have c1 : w8.cell? ⟨wO.heap.size, 1, none⟩ = some (.slice pn nn cn) := cell_in hk8
                  have c2' : w8.cell? ⟨wO.heap.size, 2, none⟩ = some (.slice (some ⟨bs, os, none⟩) 1 cs) := cell_in hk8
                  have HS8 := Lib.hid hset8
                  have hasc : AscMv (baseL ++ extraL.take (i + 1)) := by
                    rw [← both_take]
                    unfold AscMv
                    rw [List.map_take]
                    exact List.Pairwise.sublist (List.take_sublist _ _) both_asc
                  have HFind := Lib.hid (find_any w2.heap.size w2.heap.size (baseL ++ extraL.take (i + 1)) m.id (by rw [List.length_append, List.length_take]; have : baseL.length = 6 := rfl; omega) hasc (low_both (i + 1)) w8 hset8)
                  rw [← Hnm.out] at HFind
                  have Hasc := Lib.hid hasc
                  clear hset8 hb8 hfar hk8 htk hasc b0 b1 b2
                  go_wp2_with fail
                  refine HFind.out.mono ?_
                  rintro e w9 ⟨⟨kf, is, hF, hno, hyes⟩, hb9⟩
                  have hat : (baseL ++ extraL.take (i + 1))[6 + i]? = some m := by
                    rw [← both_take, List.getElem?_take_of_lt (by omega)]
                    exact both_at Hm.out
                  obtain ⟨rfl, rfl⟩ := found_mem Hasc.out hF hat rfl
                  obtain ⟨r, m', hm', rfl, hgo, hti⟩ := hyes rfl
                  rw [hat] at hm'
                  obtain rfl := Option.some.inj hm'
                  obtain ⟨ri, qn, mn, dn, qs, ms, ds⟩ := r
                  obtain ⟨tx9, sp9⟩ := goes_txt hgo
                  have hri := hgo.1
                  simp only [MvR.vn, MvR.vs] at tx9 sp9 hri ⊢
                  subst hri
                  have hmn : nn = mn := Hnn.out.symm.trans tx9.ptr.1
                  have hms : 1 = ms := (HG.out w8 HP8.out).2.2.rw spC_len |>.ptr.1.symm.trans sp9.ptr.1
                  subst hmn hms
                  have hb29 : Below w2.heap.size w2 w9 := HP8.out.trans (hb9.mono HP8.out.size)
                  obtain ⟨wF, hwF⟩ : ∃ wF, wF = w9.alloc (.cells #[.string nm, .slice qn nn dn, .slice qs 1 ds] 36) := ⟨_, rfl⟩
                  have hbF : Below w9.heap.size w9 wF := by rw [hwF]; exact (Below.refl _ _).alloc (Nat.le_refl _) _
                  have HP9F := Lib.hid (then_bel hb9 hbF)
                  have HP2F := Lib.hid (then_bel hb29 hbF)
                  have HAl := Lib.hid (alike19_any nm qn pn qs (some ⟨bs, os, none⟩) nn dn cn 1 ds cs m.needs m.steps (by omega) (by omega) wF (tx9.later hbF) ((HG.out wF HP2F.out).2.1.rw txC_len) (sp9.later hbF) ((HG.out wF HP2F.out).2.2.rw spC_len))
                  have HF' := Lib.hid hwF
                  have f0 := cell_then c0 hb9
                  have f1 := cell_then c1 hb9
                  have f2 := cell_then c2' hb9
                  have hlt9 : wO.heap.size < w9.heap.size := World.block_lt_of_cell? _ _ f0
                  rw [← Hnm.out]
                  clear hwF hbF hb9 hb29 tx9 sp9 hgo hti hF hno hyes hat hm' c0 c1 c2'
                  go_wp2_with fail
                  rw [← HF'.out]
                  refine HAl.out.mono ?_
                  rintro e w10 ⟨rfl, hb10⟩
                  have HP10 := Lib.hid (then_bel HP9F.out hb10)
                  have hk10 := (HP10.out.block _ (lt_of_block HK8.out)).trans HK8.out
                  have g0 : w10.cell? ⟨wO.heap.size, 0, none⟩ = some (.string nm) := cell_in hk10
                  have HB10 := Lib.hid (HP8.out.trans (HP10.out.mono HP8.out.size))
                  have HS10 := Lib.hid (HS8.out.later HP10.out)
                  have hn0 : ((nn : Int) == 0) = false := by simp; omega
                  clear hb10 hk10 f0 f1 f2
                  go_wp2_with fail
                  go_loopw [20, 21] (fun xv kv wx => ∃ (k : Nat) (v : Value), i + 1 ≤ k ∧ k ≤ 5 ∧ kv = .int .i64 k ∧ v = xv ∧ v = .string (B (idxTo s.table k)) ∧ Hid (Below w10.heap.size w10 wx)) (fun _ kv _ => 5 - (intOf kv).toNat)
                  case atStart => exact ⟨i + 1, _, Nat.le_refl _, by omega, by go_num, rfl, by rw [He4.out, Hnm.out], Lib.hid (Below.refl _ _)⟩
                  case round =>
                    clear g0
                    obtain ⟨k, v, hk0, hk, rfl, rfl, hv, Hbk⟩ := hrel
                    subst hv
                    obtain ⟨wX, hwX⟩ : ∃ wX, wX = wr := ⟨_, rfl⟩
                    subst hwX
                    have hzX := Hbk.out.size
                    have HPX := Lib.hid (HB10.out.trans (Hbk.out.mono HB10.out.size))
                    by_cases hltk : k < 5
                    · have hsr := H12.out.later HPX.out
                      obtain ⟨r, hr⟩ : ∃ r, R1[k]? = some r := ⟨_, List.getElem?_eq_getElem (by rw [hl1]; omega)⟩
                      obtain ⟨m2, hm2⟩ : ∃ m2, extraL[k]? = some m2 := ⟨_, List.getElem?_eq_getElem (by have : extraL.length = 5 := rfl; omega)⟩
                      obtain ⟨l0, l1', l2'⟩ := mv_cells (hsr.1.rw mvC_len) hr
                      have hg2 := hsr.2.2 k r m2 hr hm2
                      obtain ⟨tx2, sp2⟩ := goes_txt hg2
                      rw [hg2.1] at l0
                      have hnext := idx_step (t := s.table) hm2
                      obtain ⟨xi2, pn2, nn2, cn2, ps2, ns2, cs2⟩ := r
                      simp only [MvR.vn, MvR.vs] at l1' l2' tx2 sp2
                      have hst2 : ns2 ≤ 4294967295 := by
                        rw [← sp2.ptr.1]
                        have := (extra_low m2 (List.mem_of_getElem? hm2)).2; omega
                      have HSpk := Lib.hid (speaks19_any m2 s.table pn2 ps2 nn2 cn2 ns2 cs2 hst2 wX sp2)
                      rw [← Htb.out] at HSpk
                      have Hnext := Lib.hid hnext
                      have hbr : bL < wX.heap.size := by have := HPX.out.size; omega
                      have hki2 : (k : Int) < 5 := by omega
                      have hk5 : (0 : Int) ≤ (k : Int) := by omega
                      obtain ⟨nm2, hnm2⟩ : ∃ nm2, nm2 = B m2.id := ⟨_, rfl⟩
                      rw [← hnm2] at l0 HSpk
                      have Hnm2 := Lib.hid hnm2
                      obtain ⟨iv, hiv⟩ : ∃ iv, iv = B (idxTo s.table k) := ⟨_, rfl⟩
                      rw [← hiv]
                      have Hiv := Lib.hid hiv
                      clear hsr hr hg2 tx2 sp2 hst2 hnext hm2 hnm2 hiv
                      cases hspk : spkM m2 s.table with
                      | false =>
                        rw [hspk] at HSpk
                        have Hspk := Lib.hid hspk
                        clear hspk
                        go_wp2_with fail
                        refine HSpk.out.mono ?_
                        rintro e w7 ⟨rfl, hb7⟩
                        have Hb7 := Lib.hid (Hbk.out.trans (hb7.mono hzX))
                        clear hb7
                        go_wp2_with fail
                        go_roundw
                        case rel => exact ⟨k + 1, _, by omega, by omega, by go_num, rfl, by rw [Hnext.out, Hspk.out, Hiv.out]; rfl, Hb7⟩
                        case measure => simp [intOf]; omega
                      | true =>
                        rw [hspk] at HSpk
                        have Hspk := Lib.hid hspk
                        clear hspk
                        go_wp2_with fail
                        refine HSpk.out.mono ?_
                        rintro e w7 ⟨rfl, hb7⟩
                        have d0 := cell_then l0 hb7
                        have Hb7 := Lib.hid (Hbk.out.trans (hb7.mono hzX))
                        have hbr7 : bL < w7.heap.size := by have := hb7.size; omega
                        clear hb7 l0 l1' l2'
                        go_wp2_with fail
                        go_roundw
                        case rel => exact ⟨k + 1, _, by omega, by omega, by go_num, rfl, by rw [Hnext.out, Hspk.out, Hnm2.out]; rfl, Hb7⟩
                        case measure => simp [intOf]; omega
                    · obtain rfl : k = 5 := by omega
                      rw [show ((5 : Nat) : Int) = 5 from rfl]
                      rw [He5.out]
                      have HI := Lib.hid (index_any s.table wX)
                      rw [← Htb.out] at HI
                      have HSX := Lib.hid (HS10.out.later Hbk.out)
                      obtain ⟨iw, hiw⟩ : ∃ iw, iw = B (indexX s.table) := ⟨_, rfl⟩
                      rw [← hiw] at HI ⊢
                      clear hiw
                      have hid' : (iw.toList != iw.toList) = false := by simp
                      have hidd : (iw.toList == iw.toList) = true := by simp
                      go_wp2_with fail
                      refine HI.out.mono ?_
                      rintro e w14 ⟨rfl, hb14⟩
                      have HS14 := Lib.hid (HSX.out.later hb14)
                      have HB14 := Lib.hid (HPX.out.trans (hb14.mono HPX.out.size))
                      have hz14 : w3.heap.size ≤ w14.heap.size := by have := hb14.size; have := HP10.out.size; have := lt_of_block HK8.out; omega
                      clear hb14
                      go_wp2_with fail
                      go_roundw
                      case rel => exact ⟨i + 1, _, by omega, by go_num, rfl, by rw [Hu3.out, Hnm.out], HS14, HB14, hz14⟩
                      case measure => simp [intOf]; omega
        · obtain rfl : i = 5 := by omega
          have hAll := all_any w2.heap.size w2.heap.size (baseL ++ extraL.take 5) (by rw [List.length_append, List.length_take]; have : baseL.length = 6 := rfl; omega) (low_both 5) wO HSet.out
          have HAll := Lib.hid hAll
          have HBO := Lib.hid (then_bel HB2.out HBx.out)
          clear hAll
          go_wp2_with fail
          refine HAll.out.mono ?_
          rintro e w13 ⟨⟨v13, R13, rfl, hr13⟩, hb13⟩
          obtain ⟨p13, c13, rfl⟩ := hr13.form
          have hl13 : R13.length = 11 := hr13.2.1
          rw [hl13]
          have Hb13 := Lib.hid (then_bel HBO.out hb13)
          clear hr13 hb13
          go_wp2_with fail
          go_ret
          exact ⟨ret_bool (by rfl), Hb13.out⟩
end Go.Proofs.YthjcifokmcbaoaaGreatDoor.st
