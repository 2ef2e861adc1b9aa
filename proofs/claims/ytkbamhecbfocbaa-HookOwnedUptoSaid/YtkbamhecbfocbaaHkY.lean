/- tinderboxlaw22.HookOwned returns true. No conditions beside the argument's kind. -/
import Derived.Test.YtkbamhecbfocbaaHkX
namespace Go.Proofs.Ytkbamhecbfocbaa.hk
open Go.RowKit

theorem infoStr : (Try.prog.info? 9).map (fun i => (i.zero, i.size, i.bytes)) = some (some (.string .empty), 1, 16) := by kernel_rfl
theorem own_slice {w : World} {v : Value} {n : Nat} {xs : List Value} {e : TypeId} {base size : Nat} (h : w.ownsRow base e size v n xs) : ∃ p c, v = .slice p n c := by
  rcases h.2 with ⟨rfl, rfl⟩ | ⟨g, cap, cur, hv, _⟩
  · exact ⟨_, _, rfl⟩
  · exact ⟨_, _, hv⟩
theorem below_of_none {w w' : World} (h : w.grownBy w' none) : Below w.heap.size w w' := ⟨h.os, h.tape, h.output, h.size, fun k hk => h.block k hk (by simp)⟩
theorem cell_lt {w : World} {p : Addr} {u : Value} (h : w.cell? p = some u) : p.block < w.heap.size := by
  rcases Nat.lt_or_ge p.block w.heap.size with h' | h'
  · exact h'
  · simp [World.cell?, Array.getElem?_eq_none h'] at h
theorem cell_al {w : World} {p : Addr} {u : Value} (h : w.cell? p = some u) (o : Obj) : (w.alloc o).cell? p = some u := (World.cell?_of_block (Below.heap_alloc w o _ (cell_lt h))).trans h
def nMore : ByteArray := ⟨#[109, 111, 114, 101]⟩
def nBehind : ByteArray := ⟨#[98, 101, 104, 105, 110, 100]⟩
/-- A slice's cells, as Rm has them. -/
theorem Rm.olds {w : World} {B M n : Nat} {p : Option Addr} {c : Nat} (h : Rm w B M (.slice p n c) n) : c = n ∧ (p = none → n = 0 ∧ n = 0) ∧ ∃ olds : List Value, olds.length = n * 1 ∧ ∀ b, p = some b → ∀ j u, olds[j]? = some u → w.cell? (b.add j) = some u := by
  rcases h with ⟨h, h0⟩ | ⟨b, cs, h, h2, h3, h4, h5⟩
  · cases h
    exact ⟨rfl, fun _ => ⟨rfl, rfl⟩, [], rfl, fun b hb => by cases hb⟩
  · cases h
    refine ⟨rfl, fun hp => (by cases hp), cs.toList.take n, (by rw [List.length_take, Array.length_toList]; omega), fun b' hb j u hj => ?_⟩
    cases hb
    rw [add_zero', cell_in h4]
    rw [List.getElem?_take] at hj
    split at hj
    · rw [← Array.getElem?_toList]; exact hj
    · cases hj
theorem Rm.slice {w : World} {B M n : Nat} {nv : Value} (h : Rm w B M nv n) : ∃ p, nv = .slice p n n := by
  rcases h with ⟨h, h0⟩ | ⟨b, cs, h, _⟩
  · subst h0; exact ⟨_, h⟩
  · exact ⟨_, h⟩

set_option maxHeartbeats 8000000 in
set_option maxRecDepth 100000 in
theorem owned_any (c : Int) (h1 : -9223372036854775808 ≤ c) (h2 : c ≤ 9223372036854775807) (w : World) : Calls Try.prog 4 #[.int .i64 c] w fun e w' => e = .returned (.bool true) ∧ Below w.heap.size w w' := by
  obtain ⟨i0, si, sz0, sz1, sz2⟩ := info_parts infoStr
  obtain ⟨i1, hi, hz0, hz1, hz2⟩ := info_parts infoHook
  go_enter Try.func4, Try.ntmps4
  go_wp2_with fail
  refine (stands_any _).mono ?_
  rintro e w1 ⟨rfl, hb⟩
  have HB1 := Lib.hid hb
  clear hb
  go_wp2_with fail
  refine (pick_any c h1 h2 _).mono ?_
  rintro e w1' ⟨n, hn, rfl, rfl⟩
  go_wp2_with fail
  go_loopw [3, 5] (fun ok i wr => ∃ k : Nat, k ≤ n ∧ ok = .bool true ∧ i = .int .i64 (k : Int) ∧ Hid (Below w.heap.size w wr)) (fun _ i _ => (n - intOf i).toNat)
  case atStart => exact ⟨0, by omega, rfl, rfl, HB1⟩
  case round =>
    obtain ⟨k, hk, rfl, rfl, HBr⟩ := hrel
    by_cases hlt : k < n
    · have hlt' : (k : Int) < (n : Int) := by omega
      go_wp2_with fail
      refine (Standard_any _).mono ?_
      rintro e w2 ⟨v, rfl, hown, hb⟩
      have HO2 := Lib.hid hown
      have HB2 := Lib.hid hb
      clear hown hb
      go_wp2_with fail
      refine (Standard_any _).mono ?_
      rintro e w3 ⟨v3, rfl, hown, hb⟩
      have HM := Lib.hid hown
      have HB3 := Lib.hid hb
      obtain ⟨g, rfl, hleft⟩ := LeftAt.start HO2.out hb
      have HL := Lib.hid hleft
      have hz12 := HB2.out.size
      have hz23 := hb.size
      have HB13 := Lib.hid (HBr.out.trans ((HB2.out.trans (hb.mono hz12)).mono HBr.out.size))
      clear hown hb hleft
      go_wp2_with fail
      obtain ⟨wo, hwo⟩ : ∃ wo : World, wo = wr := ⟨_, rfl⟩
      have HBo : Hid (Below w.heap.size w wo) := by rw [hwo]; exact HBr
      have hzo : wo.heap.size ≤ w2.heap.size := by rw [hwo]; exact hz12
      rw [← hwo] at HL
      clear HO2 HB2 HBr hz12 hwo
      go_loopw [3, 8] (fun ok i wq => ∃ j : Nat, j ≤ 6 ∧ ok = .bool true ∧ i = .int .i64 (j : Int) ∧ Hid (LeftAt wq wo.heap.size w2.heap.size g j) ∧ Hid (Upd (span wo.heap.size w2.heap.size) w3 wq)) (fun _ i _ => (6 - intOf i).toNat)
      case atStart => exact ⟨0, by omega, rfl, rfl, HL, Lib.hid (Upd.refl _ _)⟩
      case round =>
        obtain ⟨j, hj, rfl, rfl, HLr, HUr⟩ := hrel
        by_cases hlt2 : j < 6
        · have hlt2' : (j : Int) < 6 := by omega
          obtain ⟨x, hx⟩ : ∃ x, stdL[j]? = some x := ⟨_, List.getElem?_eq_getElem (show j < stdL.length from hlt2)⟩
          have Hx := Lib.hid hx
          obtain ⟨hg1, hg2, cg, hcg, hcs, hall⟩ := HLr.out
          obtain ⟨nv, hnv, hrm⟩ := hall j x (Nat.le_refl _) hx
          obtain ⟨p, hp⟩ := hrm.slice
          subst hp
          have hnl : x.needs.length ≤ 2147483647 := std_len x (List.mem_of_getElem? hx)
          generalize hm : x.needs.length = m at *
          have HRM := Lib.hid hrm
          have hc1 : wr.cell? ⟨g, j * 2 + 1, none⟩ = some (.slice p m m) := (cell_in hcg).trans hnv
          have hgl := lt_of_block hcg
          have HCG := Lib.hid hcg
          clear hx hm hcg hall hnv hrm
          go_wp2_with fail
          obtain ⟨wp, hwp⟩ : ∃ wp : World, wp = wr := ⟨_, rfl⟩
          clear hwp
          go_loopw [9] (fun i wq => ∃ t : Nat, t ≤ m ∧ i = .int .i64 (t : Int) ∧ Hid (LeftAt wq wo.heap.size w2.heap.size g j) ∧ Hid (Rm wq wo.heap.size w2.heap.size (.slice p m m) m) ∧ wq.cell? ⟨g, j * 2 + 1, none⟩ = some (.slice p m m) ∧ Hid (Upd (span wo.heap.size w2.heap.size) w3 wq)) (fun i _ => (m - intOf i).toNat)
          case atStart => exact ⟨0, by omega, rfl, HLr, HRM, hc1, HUr⟩
          case round =>
            obtain ⟨t, ht, rfl, HLq, HRq, hcq, HUq⟩ := hrel
            by_cases hlt3 : t < m
            · have hlt3' : (t : Int) < (m : Int) := by omega
              rcases HRq.out with ⟨_, h0⟩ | ⟨b, cs, hv, hB, hM, hblk, hsz⟩
              · omega
              · cases hv
                have hcb : wr.cell? ⟨b, t, none⟩ = some (cs[t]'(by omega)) := by rw [cell_in hblk, Array.getElem?_eq_getElem]
                have hfb : wr.frozen? ⟨b, t, none⟩ = false := free_in hblk
                have HBK := Lib.hid hblk
                generalize cs[t] = old at hcb
                have hne : g ≠ b := by
                  obtain ⟨_, _, c2, h2, _⟩ := HLq.out
                  exact ne_of_types h2 hblk (by decide)
                clear hblk
                go_wp2_with fail
                go_roundw
                case rel =>
                  refine ⟨t + 1, by omega, by go_num, Lib.hid (HLq.out.setStr HBK.out _), Lib.hid (HRq.out.set _ _ rfl), ?_, Lib.hid (HUq.out.setCell (.inl (mem_span.2 ⟨hB, hM⟩)) _)⟩
                  rw [World.cell?_setCell_other _ _ _ _ (by simp)]
                  exact hcq
                case measure => simp [intOf]; omega
            · obtain rfl : t = m := by omega
              obtain ⟨_, hnn, olds, hlo, holds⟩ := HRq.out.olds
              have HN := Lib.hid hnn
              have HLO := Lib.hid hlo
              have HOL := Lib.hid holds
              clear hnn hlo holds
              have hgr : g < wr.heap.size := by
                obtain ⟨_, _, c2, h2, _⟩ := HLq.out
                exact lt_of_block h2
              go_wp2_with (at_builtin; refine wpList_append_grows _ rfl (.tmp 53) (.tmp 54) 27 rfl 9 i0 (.string .empty) 1 16 Try.underlying27 si sz0 sz1 sz2 rfl (by decide) p t t olds rfl (fun h => HN.out h) HLO.out ?c0 ⟨wr.heap.size, 0, none⟩ 1 1 [.string nBehind] rfl rfl ?c1 ?c2 (by omega) (by unfold maxLen; omega) (by omega) ?grow)
              case c0 =>
                intro b hb jj u hu
                exact cell_al (HOL.out b hb jj u hu) _
              case c1 => intro j u hj; match j, hj with | 0, hj => simp at hj; subst hj; simp; rfl
              case c2 => simp [Value.oneCell']
              case grow =>
                intro v' w' hown hgrow
                obtain ⟨p', c', rfl⟩ := own_slice hown
                have hbel : Below wr.heap.size wr w' := ((Below.refl _ _).alloc (Nat.le_refl _) _).grown hgrow (by simp) (fun k h => by cases h)
                have hl1 := HLq.out.below hbel
                have HU1 := Lib.hid (HUq.out.then_below hbel)
                have HL1 := Lib.hid hl1
                obtain ⟨_, _, c2, hc2, hc3, _⟩ := hl1
                have k0 : w'.cell? ⟨g, j * 2, none⟩ = some (c2[j * 2]'(by omega)) := by rw [cell_in hc2, Array.getElem?_eq_getElem]
                have k1 : w'.cell? ⟨g, j * 2 + 1, none⟩ = some (c2[j * 2 + 1]'(by omega)) := by rw [cell_in hc2, Array.getElem?_eq_getElem]
                have f0 : w'.frozen? ⟨g, j * 2, none⟩ = false := free_in hc2
                have f1 : w'.frozen? ⟨g, j * 2 + 1, none⟩ = false := free_in hc2
                generalize c2[j * 2] = old0 at k0
                generalize c2[j * 2 + 1] = old1 at k1
                clear hc2 hc3 hown hgrow hbel
                go_wp2_with fail
                go_roundw
                case rel =>
                  exact ⟨j + 1, by omega, rfl, by go_num, Lib.hid (HL1.out.over _ _), Lib.hid ((HU1.out.setCell (.inl (mem_span.2 ⟨hg1, hg2⟩)) _).setCell (.inl (mem_span.2 ⟨hg1, hg2⟩)) _)⟩
                case measure => simp [intOf]; omega
        · obtain rfl : j = 6 := by omega
          obtain ⟨hg1, hg2, cg, hcg, hcs, _⟩ := HLr.out
          have HCG := Lib.hid hcg
          clear hcg
          go_wp2_with (at_builtin; refine wpList_append_grows _ rfl (.tmp 66) (.tmp 68) 23 rfl 29 i1 (.agg #[.string .empty, .slice none 0 0]) 2 40 Try.underlying23 hi hz0 hz1 hz2 rfl (by decide) (some ⟨g, 0, none⟩) 6 6 (cg.toList.take 12) rfl (fun h => by cases h) ?c00 ?c0 ⟨wr.heap.size, 0, none⟩ 1 1 [.string nMore, .slice none 0 0] rfl rfl ?c1 ?c2 (by omega) (by unfold maxLen; omega) (by omega) ?grow)
          case c00 => rw [List.length_take, Array.length_toList]; omega
          case c0 =>
            intro b hb jj u hu
            cases hb
            refine cell_al ?_ _
            rw [add_zero', cell_in HCG.out]
            rw [List.getElem?_take] at hu
            split at hu
            · rw [← Array.getElem?_toList]; exact hu
            · cases hu
          case c1 =>
            intro j u hj
            match j, hj with
            | 0, hj => obtain rfl := Option.some.inj hj; simp [Addr.add]; rfl
            | 1, hj => obtain rfl := Option.some.inj hj; simp [Addr.add]
          case c2 => simp [Value.oneCell']
          case grow =>
            intro v' w' hown hgrow
            obtain ⟨p', c', rfl⟩ := own_slice hown
            have hbel : Below wr.heap.size wr w' := ((Below.refl _ _).alloc (Nat.le_refl _) _).grown hgrow (by simp) (fun k h => by cases h)
            have HU1 := Lib.hid (HUr.out.then_below hbel)
            clear hown hgrow hbel
            have HM1 := Lib.hid ((HM.out.upd HU1.out (fun k hk => (mem_span.1 hk).2)).reads)
            have HB4 := Lib.hid (HB13.out.trans (HU1.out.below (B := w.heap.size) (fun k hk => Nat.le_trans HBo.out.size (mem_span.1 hk).1) HB13.out.size))
            go_wp2_with fail
            refine (refStd_any _).mono ?_
            rintro e w5 ⟨v5, rfl, hr, hb⟩
            have HR := Lib.hid hr
            have HM2 := Lib.hid (HM1.out.below hb)
            have HB5 := Lib.hid (HB4.out.trans (hb.mono HB4.out.size))
            clear hr hb
            go_wp2_with fail
            refine (hooks_same v3 v5 stdL _ (by decide) std_len HM2.out HR.out).mono ?_
            rintro e w6 ⟨rfl, hb⟩
            have HB6 := Lib.hid (HB5.out.trans (hb.mono HB5.out.size))
            clear hb
            go_wp2_with fail
            go_roundw
            case rel => exact ⟨k + 1, by omega, rfl, by go_num, HB6⟩
            case measure => simp [intOf]; omega
    · obtain rfl : k = n := by omega
      go_wp2_with fail
      refine (stands_any _).mono ?_
      rintro e w7 ⟨rfl, hb⟩
      have HB7 := Lib.hid (HBr.out.trans (hb.mono HBr.out.size))
      clear hb
      go_wp2_with fail
      go_ret
      exact ⟨rfl, HB7.out⟩
end Go.Proofs.Ytkbamhecbfocbaa.hk
