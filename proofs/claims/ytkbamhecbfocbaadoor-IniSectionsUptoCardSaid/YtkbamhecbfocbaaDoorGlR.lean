/- glyph.Quote returns the plain function of bytes. Condition: the text is no longer than 2147483647 bytes. -/
import Derived.Test.YtkbamhecbfocbaaDoorGlQ
namespace Go.Proofs.YtkbamhecbfocbaaDoor.gl
open Go.ChangeShapes Go.WideShapes Go.ChangeAt Go.RowKit

theorem ofInt_u8 (a : Nat) (ha : a < 256) : (BitVec.ofInt 8 (a : Int)).toNat = a := by
  rw [BitVec.ofInt_natCast, BitVec.toNat_ofNat]; exact Nat.mod_eq_of_lt (by omega)
theorem u8_and15 (a : Nat) (ha : a < 256) : bits .and .u8 (a : Int) 15 = ((a % 16 : Nat) : Int) := by
  show IntKind.u8.wrap ((BitVec.ofInt 8 (a : Int) &&& BitVec.ofInt 8 ((15 : Nat) : Int)).toNat : Int) = _
  rw [BitVec.toNat_and, ofInt_u8 a ha, ofInt_u8 15 (by omega), IntKind.wrap_u8, show (15 : Nat) = 2 ^ 4 - 1 from rfl, Nat.and_two_pow_sub_one_eq_mod]
  omega
theorem ne_of_hat {g g' G : Nat} {n cap h : Nat} (hne : g ≠ G) (hG : G < h) (hat : (Value.slice (some ⟨g, 0, none⟩) n cap).ownBlock = some g' ∨ h ≤ g') : g' ≠ G := by
  rcases hat with h1 | h1
  · simp [Value.ownBlock] at h1
    omega
  · omega

set_option maxHeartbeats 2000000 in
set_option maxRecDepth 100000 in
theorem Quote_any (s : ByteArray) (hs : s.size ≤ 2147483647) (w : World) :
    Calls Tryd.prog 43 #[.string s] w fun e w' => e = .returned (.string ⟨(quoteL s.data.toList).toArray⟩) ∧ Below w.heap.size w w' := by
  obtain ⟨i0, hi, hz0, hz1, hz2⟩ := info_parts Tryd.infoByte
  go_enter Tryd.func43, Tryd.ntmps43
  go_wp2_with (with_reducible refine wpList_bytes_of_string rfl 9 32 5 _ rfl s rfl Tryd.underlying9 Tryd.underlying32 Tryd.underlying5 ?_)
  intro bcap w2 hlies hb2 hzz hcap
  have HO2 : Hid (w2.ownsRow w.heap.size 5 1 (.slice (some ⟨w.heap.size, 0, none⟩) 1 1) 1 (bv (qTo s.data.toList 0))) :=
    (World.ownsRow_lit (base := w.heap.size) (size := 1) w #[.int .u8 34] 1 (Nat.le_refl _) (by decide) rfl).kept (row := none) ⟨hb2.os, hb2.tape, hb2.output, hb2.size, fun k hk _ => hb2.block k (by simpa using hk)⟩ (.inr (by simp [Value.ownBlock]))
  have HB2 := Lib.hid (((Below.refl w.heap.size w).alloc (Nat.le_refl _) (.cells #[.int .u8 34] 5)).trans (hb2.mono (by omega)))
  obtain ⟨G, hG⟩ : ∃ G, G = w.heap.size + 1 := ⟨_, rfl⟩
  rw [← hG] at hlies hzz
  have HL2 := Lib.hid hlies
  have hGw : w.heap.size < G := by omega
  have HG := Lib.hid hG
  clear hlies hb2
  rw [← hG]
  clear hG
  go_wp2_with fail
  go_loopw [3, 10] (fun v i wr => ∃ k n g cap : Nat, k ≤ s.size ∧ i = .int .i64 k ∧ v = .slice (some ⟨g, 0, none⟩) n cap ∧ n ≤ 1 + 4 * k ∧ g ≠ G ∧ G < wr.heap.size ∧ wr.ownsRow w.heap.size 5 1 (.slice (some ⟨g, 0, none⟩) n cap) n (bv (qTo s.data.toList k)) ∧ Lies wr G s.data.toList ∧ Below w.heap.size w wr) (fun _ i _ => s.size - (intOf i).toNat)
  case atStart => exact ⟨0, 1, w.heap.size, 1, by omega, rfl, rfl, by omega, by omega, hzz, HO2.out, HL2.out, HB2.out⟩
  case round =>
    obtain ⟨k, n, g, cap, hk, rfl, rfl, hn, hgG, hGr, hown, hlie, hb⟩ := hrel
    have Hown := Lib.hid hown
    have Hlie := Lib.hid hlie
    have Hb := Lib.hid hb
    have hsz := hb.size
    clear hown hlie hb
    by_cases hlt : k < s.size
    · obtain ⟨b, hbl, hbk, hb0, hb1⟩ := byteAt s k hlt
      have hcell := Hlie.out.cell k b hbl
      have Hbl := Lib.hid hbl
      clear hbl
      by_cases h34 : b.toNat = 34 ∨ b.toNat = 92
      · have Hq : Hid (qB b = [92, b]) := by show _ = _; unfold qB; rw [if_pos h34]
        rcases (show ((b.toNat : Int) == 34) = true ∨ (((b.toNat : Int) == 34) = false ∧ ((b.toNat : Int) == 92) = true) from by
          rcases h34 with h | h
          · exact .inl (by rw [h]; rfl)
          · exact .inr ⟨by rw [h]; rfl, by rw [h]; rfl⟩) with e1 | ⟨e1, e2⟩
        all_goals
            clear h34
            go_wp2_with (at_builtin; go_must (refine wpList_append_lit rfl _ _ 32 rfl 5 i0 _ 1 Tryd.underlying32 hi hz0 hz1 hz2 rfl _ 2 (by omega) (by rfl) (by rfl) w.heap.size _ n _ (by rfl) Hown.out (by simp [Value.oneCell']) (by omega) (by omega) (by omega) ?_))
            intro g' cap' w1 hown1 hgrow hat hz hlt1
            have HO1 := Lib.hid (own_next Hbl.out (by rw [Hq.out]; rfl) hown1)
            have HB1 := Lib.hid (below_grown_own Hb.out Hown.out hgrow hsz)
            have HL1 := Lib.hid (Hlie.out.grown hgrow hGr (by simp [Value.ownBlock]; omega))
            have hne1 := ne_of_hat hgG hGr hat
            clear hown1 hgrow hat
            go_wp2_with fail
            go_roundw
            case rel => exact ⟨k + 1, n + 2, g', cap', by omega, by go_num, rfl, by omega, hne1, by omega, HO1.out, HL1.out, HB1.out⟩
            case measure => simp [intOf]; omega
      · have e1 : ((b.toNat : Int) == 34) = false := by simp only [beq_eq_false_iff_ne]; omega
        have e2 : ((b.toNat : Int) == 92) = false := by simp only [beq_eq_false_iff_ne]; omega
        by_cases hp : 32 ≤ b.toNat ∧ b.toNat ≤ 126
        · obtain ⟨p1, p2⟩ := hp
          have Hq : Hid (qB b = [b]) := by show _ = _; unfold qB; rw [if_neg h34, if_pos ⟨p1, p2⟩]
          have p1' : (32 : Int) ≤ (b.toNat : Int) := by omega
          have p2' : (b.toNat : Int) ≤ 126 := by omega
          clear h34 p1 p2
          focus
            go_wp2_with (at_builtin; go_must (refine wpList_append_lit rfl _ _ 32 rfl 5 i0 _ 1 Tryd.underlying32 hi hz0 hz1 hz2 rfl _ 1 (by omega) (by rfl) (by rfl) w.heap.size _ n _ (by rfl) Hown.out (by simp [Value.oneCell']) (by omega) (by omega) (by omega) ?_))
            intro g' cap' w1 hown1 hgrow hat hz hlt1
            have HO1 := Lib.hid (own_next Hbl.out (by rw [Hq.out]; rfl) hown1)
            have HB1 := Lib.hid (below_grown_own Hb.out Hown.out hgrow hsz)
            have HL1 := Lib.hid (Hlie.out.grown hgrow hGr (by simp [Value.ownBlock]; omega))
            have hne1 := ne_of_hat hgG hGr hat
            clear hown1 hgrow hat
            go_wp2_with fail
            go_roundw
            case rel => exact ⟨k + 1, n + 1, g', cap', by omega, by go_num, rfl, by omega, hne1, by omega, HO1.out, HL1.out, HB1.out⟩
            case measure => simp [intOf]; omega
        · have Hq : Hid (qB b = [92, 120, hexd (b.toNat / 16), hexd (b.toNat % 16)]) := by show _ = _; unfold qB; rw [if_neg h34, if_neg hp]
          clear h34
          rcases (show (b.toNat : Int) < 32 ∨ (126 : Int) < (b.toNat : Int) by omega) with hp' | hp'
          all_goals
            clear hp
            have e3 : (b.toNat : Int) / 16 = ((b.toNat / 16 : Nat) : Int) := by omega
            have e4 : bits BinOp.and IntKind.u8 (b.toNat : Int) 15 = ((b.toNat % 16 : Nat) : Int) := u8_and15 _ (by omega)
            have x3 := hexIx (b.toNat / 16) (by omega)
            have x4 := hexIx (b.toNat % 16) (by omega)
            have y3 : ((b.toNat / 16 : Nat) : Int) < 16 := by omega
            have y4 : ((b.toNat % 16 : Nat) : Int) < 16 := by omega
            have z3 : (0 : Int) ≤ ((b.toNat / 16 : Nat) : Int) := by omega
            have z4 : (0 : Int) ≤ ((b.toNat % 16 : Nat) : Int) := by omega
            generalize b.toNat / 16 = d1 at *
            generalize b.toNat % 16 = d2 at *
            go_wp2_with fail
            go_region_held3 (fun _ => True) (trivial) ((refine step_append_lit (by rfl) _ _ 32 (by rfl) 5 i0 _ 1 Tryd.underlying32 hi hz0 hz1 hz2 rfl _ 4 (by omega) (by rfl) (by rfl) w.heap.size _ n _ (by rfl) Hown.out (by simp [Value.oneCell']) (by omega) (by omega) (by omega) ?_; intro g' cap' w1 hown1 hgrow hat hz hlt1))
            all_goals
              have HO1 := Lib.hid (own_next Hbl.out (by rw [Hq.out]; rfl) hown1)
              have HB1 := Lib.hid (below_grown_own Hb.out Hown.out hgrow hsz)
              have HL1 := Lib.hid (Hlie.out.grown hgrow hGr (by simp [Value.ownBlock]; omega))
              have hne1 := ne_of_hat hgG hGr hat
              clear hown1 hgrow hat
              go_wp2_with fail
              go_roundw
              case rel => exact ⟨k + 1, n + 4, g', cap', by omega, by go_num, rfl, by omega, hne1, by omega, HO1.out, HL1.out, HB1.out⟩
              case measure => simp [intOf]; omega
    · obtain rfl : k = s.size := by omega
      go_wp2_with (at_builtin; go_must (refine wpList_append_lit rfl _ _ 32 rfl 5 i0 _ 1 Tryd.underlying32 hi hz0 hz1 hz2 rfl _ 1 (by omega) (by rfl) (by rfl) w.heap.size _ n _ (by rfl) Hown.out (by simp [Value.oneCell']) (by omega) (by omega) (by omega) ?_))
      intro g' cap' w1 hown1 hgrow hat hz hlt1
      have HB1 := Lib.hid (below_grown_own Hb.out Hown.out hgrow hsz)
      have HL1 := Lib.hid (Hlie.out.grown hgrow hGr (by simp [Value.ownBlock]; omega))
      have hne1 := ne_of_hat hgG hGr hat
      have HO1 : Hid (w1.ownsRow w.heap.size 5 1 (.slice (some ⟨g', 0, none⟩) (n + 1) cap') (n + 1) (bv (quoteL s.data.toList))) := by
        show w1.ownsRow _ _ _ _ _ _
        rw [← qTo_end, bv_append, show s.data.toList.length = s.size by simp]
        exact hown1
      clear hown1 hgrow hat
      refine wpList_string_of_own rfl 32 9 5 _ rfl w.heap.size _ _ _ (by rfl) HO1.out Tryd.underlying32 Tryd.underlying5 Tryd.underlying9 ?_
      go_wp2_with fail
      go_ret
      exact ⟨rfl, HB1.out⟩
end Go.Proofs.YtkbamhecbfocbaaDoor.gl
