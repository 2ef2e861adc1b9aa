/- Package key: a set of several lists, the standard set. Conditions: the listed variables hold what the program's text lays. -/
import Derived.Test.YtpfhhaonfbfheaaGreatDoorKyN
namespace Go.Proofs.YtpfhhaonfbfheaaGreatDoor.ky
open Go.ChangeShapes Go.WideShapes Go.ChangeAt Go.RowKit gl va ls

theorem addAll_take (S : List Ky) (lss : List (List Ky)) (i : Nat) (l : List Ky) (h : lss[i]? = some l) : addAll S (lss.take (i + 1)).flatten = addAll (addAll S (lss.take i).flatten) l := by
  have hlt : i < lss.length := (List.getElem?_eq_some_iff.1 h).1
  rw [List.take_succ_eq_append_getElem hlt]
  rw [List.getElem?_eq_getElem hlt] at h
  rw [Option.some.inj h, List.flatten_append, addAll_append]
  simp
set_option maxHeartbeats 4000000 in
set_option maxRecDepth 100000 in
theorem together_any (g n : Nat) (lss : List (List Ky)) (hn : lss.length = n) (hn4 : n ≤ 100) (hlens : ∀ l ∈ lss, l.length ≤ 4294967295) (hok : ∀ l ∈ lss, ∀ x ∈ l, KyOk x) (w : World) (hR : Rows4 w g lss) (hV : Vlo w) :
    Calls Tryz.prog 33 #[.slice (some ⟨g, 0, none⟩) n n] w fun e w' => (∃ b, e = .returned (.pointer (some ⟨b, 0, none⟩)) ∧ SetK w.heap.size w' b (addAll [] lss.flatten)) ∧ Below w.heap.size w w' := by
  have HV := Lib.hid hV
  have HR := Lib.hid hR
  have HNw := Lib.hid (New_any w)
  have hgw : g < w.heap.size := by obtain ⟨_, h1, _⟩ := hR; exact lt_of_block h1
  clear hV hR
  go_enter Tryz.func33, Tryz.ntmps33
  go_wp2_with fail
  refine HNw.out.mono ?_
  rintro e w1 ⟨rfl, hS1, hb1⟩
  have HS1 := Lib.hid hS1
  have Hb1 := Lib.hid hb1
  clear hS1 hb1 HNw
  obtain ⟨b, hb⟩ : ∃ b, b = w.heap.size := ⟨_, rfl⟩
  rw [← hb] at HS1
  rw [← hb]
  have hbw : w.heap.size ≤ b := by omega
  have Hbe := Lib.hid hb
  clear hb
  go_wp2_with fail
  go_loopw [11] (fun i wr => ∃ j : Nat, j ≤ n ∧ i = .int .i64 j ∧ Hid (SetK b wr b (addAll [] (lss.take j).flatten)) ∧ Hid (Below w.heap.size w wr)) (fun i _ => n - (intOf i).toNat)
  case atStart => exact ⟨0, by omega, rfl, HS1, Hb1⟩
  case round =>
    clear HS1 Hb1
    obtain ⟨wo, rfl⟩ : ∃ wo, wo = wr := ⟨_, rfl⟩
    obtain ⟨j, hj, rfl, HS, Hb⟩ := hrel
    by_cases hlt : j < n
    · obtain ⟨l, hl⟩ : ∃ l, lss[j]? = some l := ⟨_, List.getElem?_eq_getElem (by omega)⟩
      have hlm := List.mem_of_getElem? hl
      obtain ⟨cs, hcs, hrow⟩ := HR.out
      obtain ⟨v, hv, hkv⟩ := hrow j l hl
      obtain ⟨p, c, rfl⟩ := hkv.form
      have c0 : wo.cell? ⟨g, j, none⟩ = some (.slice p l.length c) := by rw [cell_in ((Hb.out.block g (lt_of_block hcs)).trans hcs)]; exact hv
      have hgo : g < wo.heap.size := by have := Hb.out.size; omega
      have HKl := Lib.hid hkv
      have HPl := Lib.hid hkv.ptr.2.2
      have hll := hlens l hlm
      have Hokl := Lib.hid (hok l hlm)
      have Hat := Lib.hid (addAll_take [] lss j l hl)
      obtain ⟨S, hS⟩ : ∃ S, addAll [] (lss.take j).flatten = S := ⟨_, rfl⟩
      rw [hS] at HS Hat
      have hwo : w.heap.size ≤ wo.heap.size := Hb.out.size
      clear hl hlm hcs hrow hv hkv hS
      go_wp2_with fail
      go_loopw [17] (fun i wq => ∃ k : Nat, k ≤ l.length ∧ i = .int .i64 k ∧ Hid (SetK b wq b (addAll S (l.take k))) ∧ Hid (Below w.heap.size w wq)) (fun i _ => l.length - (intOf i).toNat)
      case atStart => exact ⟨0, by omega, rfl, HS, Hb⟩
      case round =>
        obtain ⟨wq, rfl⟩ : ∃ wq, wq = wr := ⟨_, rfl⟩
        obtain ⟨k, hk, rfl, HSq, Hbq⟩ := hrel
        by_cases hlt2 : k < l.length
        · obtain ⟨x, hx⟩ : ∃ x, l[k]? = some x := ⟨_, List.getElem?_eq_getElem hlt2⟩
          obtain ⟨bp, op, rfl, hbp⟩ := HPl.out (by omega)
          obtain ⟨k0, k1, k2, k3, k4, k5⟩ := ky_cells (HKl.out.later Hbq.out) hx
          have hbq : bp < wq.heap.size := by have := Hbq.out.size; omega
          have hki : (k : Int) < (l.length : Int) := by omega
          have hk50 : (0 : Int) ≤ (k : Int) := by omega
          have hbqs : b < wq.heap.size := HSq.out.lt
          have Hst := Lib.hid (add_step S l k x hx)
          have HAdd : Hid (∀ W, Below wq.heap.size wq W → Calls Tryz.prog 48 #[.pointer (some ⟨b, 0, none⟩), .agg #[.string (B x.name), .int .i64 x.kind, .string (B x.dflt), .int .i64 x.least, .int .i64 x.most, .string (B x.letter)]] W fun e w' => (∃ er, e = .returned (.int .i64 er)) ∧ SetK b w' b (addAll S (l.take (k + 1))) ∧ Below w.heap.size w w') := Lib.hid fun W hW => by
            have hbW := then_bel Hbq.out hW
            refine (Add_any b b (addAll S (l.take k)) x W (HSq.out.later hW) (Hokl.out x (List.mem_of_getElem? hx)) (by have := hW.size; omega) (HV.out.below hbW (Nat.le_refl _))).mono fun e w' h => ?_
            obtain ⟨h1, h2, h3⟩ := h
            refine ⟨⟨_, h1⟩, by rw [Hst.out]; exact h2, hbW.trans ?_⟩
            rw [← Hbe.out]
            exact h3
          clear hx
          generalize B x.name = nm at *
          generalize B x.dflt = df at *
          generalize B x.letter = lt at *
          generalize x.kind = kk at *
          generalize x.least = le at *
          generalize x.most = mo at *
          go_wp2_with fail
          refine (HAdd.out _ (by repeat (first | exact Below.refl _ _ | refine Below.setCell ?_ (by simp only; omega) _ | refine Below.alloc ?_ (by simp) _))).mono ?_
          rintro e w9 ⟨⟨er, rfl⟩, hs9, hb9⟩
          have Hs9 := Lib.hid hs9
          have Hb9 := Lib.hid hb9
          clear hs9 hb9
          go_wp2_with fail
          go_roundw
          case rel => exact ⟨k + 1, by omega, by go_num, Hs9, Hb9⟩
          case measure => simp [intOf]; omega
        · obtain rfl : k = l.length := by omega
          have HSn : Hid (SetK b wq b (addAll [] (lss.take (j + 1)).flatten)) := Lib.hid (by
            rw [Hat.out]
            have h := HSq.out
            rwa [List.take_of_length_le (Nat.le_refl _)] at h)
          have hd1 : decide ((l.length : Int) < (l.length : Int)) = false := by simp
          go_wp2_with fail
          go_roundw
          case rel => exact ⟨j + 1, by omega, by go_num, HSn, Hbq⟩
          case measure => simp [intOf]; omega
    · obtain rfl : j = n := by omega
      have hd1 : decide ((j : Int) < (j : Int)) = false := by simp
      go_wp2_with fail
      go_ret
      refine ⟨⟨b, rfl, ?_⟩, Hb.out⟩
      have h := HS.out
      rw [List.take_of_length_le (by omega)] at h
      rw [← Hbe.out]
      exact h
theorem four {w : World} {g : Nat} {p0 p1 p2 p3 : Option Addr} (h : w.heap[g]? = some (.cells #[.slice p0 3 3, .slice p1 5 5, .slice p2 4 4, .slice p3 4 4] 27 (0, 0))) (h0 : Kys w (.slice p0 3 3) logK) (h1 : Kys w (.slice p1 5 5) netK) (h2 : Kys w (.slice p2 4 4) storeK) (h3 : Kys w (.slice p3 4 4) bootK) : Rows4 w g [logK, netK, storeK, bootK] := by
  refine ⟨_, h, fun i l hl => ?_⟩
  match i, hl with
  | 0, hl => cases hl; exact ⟨_, rfl, h0⟩
  | 1, hl => cases hl; exact ⟨_, rfl, h1⟩
  | 2, hl => cases hl; exact ⟨_, rfl, h2⟩
  | 3, hl => cases hl; exact ⟨_, rfl, h3⟩
set_option maxHeartbeats 1000000 in
set_option maxRecDepth 100000 in
/-- The standard set, at any time. -/
theorem Standard_any (w : World) (hV : Vlo w) :
    Calls Tryz.prog 8 #[] w fun e w' => (∃ b, e = .returned (.pointer (some ⟨b, 0, none⟩)) ∧ SetK w.heap.size w' b stdK) ∧ Below w.heap.size w w' := by
  have HV := Lib.hid hV
  clear hV
  go_enter Tryz.func8, Tryz.ntmps8
  go_wp2_with fail
  refine (log_any w).mono ?_
  rintro e w1 ⟨⟨p1, rfl, h1⟩, hb1⟩
  have H1 := Lib.hid h1
  have Hb1 := Lib.hid hb1
  clear h1 hb1
  go_wp2_with fail
  refine (net_any w1).mono ?_
  rintro e w2 ⟨⟨p2, rfl, h2⟩, hb2⟩
  have H12 := Lib.hid (H1.out.later hb2)
  have H2 := Lib.hid h2
  have Hb2 := Lib.hid (then_bel Hb1.out hb2)
  clear h2 hb2
  go_wp2_with fail
  refine (store_any w2).mono ?_
  rintro e w3 ⟨⟨p3, rfl, h3⟩, hb3⟩
  have H13 := Lib.hid (H12.out.later hb3)
  have H23 := Lib.hid (H2.out.later hb3)
  have H3 := Lib.hid h3
  have Hb3 := Lib.hid (then_bel Hb2.out hb3)
  clear h3 hb3
  go_wp2_with fail
  refine (boot_any w3).mono ?_
  rintro e w4 ⟨⟨p4, rfl, h4⟩, hb4⟩
  have H14 := Lib.hid (H13.out.later hb4)
  have H24 := Lib.hid (H23.out.later hb4)
  have H34 := Lib.hid (H3.out.later hb4)
  have H4 := Lib.hid h4
  have Hb4 := Lib.hid (then_bel Hb3.out hb4)
  clear h4 hb4
  obtain ⟨w5, hw5⟩ : ∃ w5, w5 = w4.alloc (.cells #[.slice p1 3 3, .slice p2 5 5, .slice p3 4 4, .slice p4 4 4] 27) := ⟨_, rfl⟩
  have hb45 : Below w4.heap.size w4 w5 := by rw [hw5]; exact (Below.refl _ _).alloc (Nat.le_refl _) _
  have hrow : Rows4 w5 w4.heap.size [logK, netK, storeK, bootK] := four (by rw [hw5]; exact heap_alloc_new w4 _) (H14.out.later hb45) (H24.out.later hb45) (H34.out.later hb45) (H4.out.later hb45)
  have Hb5 := Lib.hid (then_bel Hb4.out hb45)
  have HT := Lib.hid (together_any w4.heap.size 4 [logK, netK, storeK, bootK] rfl (by decide) (by decide) (fun l hl x hx => std_ok x (by
    simp only [List.mem_cons, List.not_mem_nil, or_false] at hl
    unfold stdK
    rcases hl with rfl | rfl | rfl | rfl <;> simp [hx])) w5 hrow (HV.out.below Hb5.out (Nat.le_refl _)))
  have Hw5 := Lib.hid hw5
  clear hb45 hrow hw5
  go_wp2_with fail
  rw [← Hw5.out]
  refine HT.out.mono ?_
  rintro e w6 ⟨⟨b, rfl, hs⟩, hb6⟩
  have Hs := Lib.hid hs
  have Hb6 := Lib.hid (then_bel Hb5.out hb6)
  have Hz := Lib.hid Hb5.out.size
  clear hs hb6
  go_wp2_with fail
  go_ret
  refine ⟨⟨b, rfl, ?_⟩, Hb6.out⟩
  have h := Hs.out
  rw [show [logK, netK, storeK, bootK].flatten = logK ++ (netK ++ (storeK ++ bootK)) by simp, std_all] at h
  exact ⟨by have := h.lo; have := Hz.out; omega, h.len, h.asc, h.ok, by
    obtain ⟨v, hv, hB⟩ := h.blk
    exact ⟨v, hv, hB.mono Hz.out⟩⟩
end Go.Proofs.YtpfhhaonfbfheaaGreatDoor.ky
