/- Quoting: a plain function of bytes; glyph.Quote and the reference's Quote return it. Condition: the text is no longer than 2147483647 bytes. -/
import Derived.Test.YtkbamhecbfocbaaDoorGlN
import Derived.Test.YtkbamhecbfocbaaDoorLib2
import Derived.Deep.RegionHeld3
import Derived.StillTactics
namespace Go.Proofs.YtkbamhecbfocbaaDoor.gl
open Go.ChangeShapes Go.WideShapes Go.ChangeAt Go.RowKit

def hexd (d : Nat) : UInt8 := if d < 10 then UInt8.ofNat (48 + d) else UInt8.ofNat (87 + d)
/-- How a byte is quoted. -/
def qB (b : UInt8) : List UInt8 := if b.toNat = 34 ∨ b.toNat = 92 then [92, b] else if 32 ≤ b.toNat ∧ b.toNat ≤ 126 then [b] else [92, 120, hexd (b.toNat / 16), hexd (b.toNat % 16)]
def quoteL (l : List UInt8) : List UInt8 := 34 :: (l.flatMap qB ++ [34])
theorem qB_le (b : UInt8) : (qB b).length ≤ 4 := by unfold qB; split; simp; split <;> simp
theorem flat_le (l : List UInt8) : (l.flatMap qB).length ≤ 4 * l.length := by
  induction l with
  | nil => simp
  | cons c r ih => rw [List.flatMap_cons, List.length_append, List.length_cons]; have := qB_le c; omega
theorem hexIx (d : Nat) (hd : d < 16) : ∀ h : d < (⟨#[48, 49, 50, 51, 52, 53, 54, 55, 56, 57, 97, 98, 99, 100, 101, 102]⟩ : ByteArray).size,
    (((⟨#[48, 49, 50, 51, 52, 53, 54, 55, 56, 57, 97, 98, 99, 100, 101, 102]⟩ : ByteArray)[d]'h).toNat : Int) = ((hexd d).toNat : Int) := by
  intro h
  rcases (show d = 0 ∨ d = 1 ∨ d = 2 ∨ d = 3 ∨ d = 4 ∨ d = 5 ∨ d = 6 ∨ d = 7 ∨ d = 8 ∨ d = 9 ∨ d = 10 ∨ d = 11 ∨ d = 12 ∨ d = 13 ∨ d = 14 ∨ d = 15 by omega) with rfl | rfl | rfl | rfl | rfl | rfl | rfl | rfl | rfl | rfl | rfl | rfl | rfl | rfl | rfl | rfl <;> rfl
theorem Tryd.infoByte : (Tryd.prog.info? 5).map (fun i => (i.zero, i.size, i.bytes)) = some (some (.int .u8 0), 1, 1) := by kernel_rfl
/-- What stands behind k bytes. -/
def qTo (l : List UInt8) (k : Nat) : List UInt8 := 34 :: (l.take k).flatMap qB
theorem qTo_zero (l : List UInt8) : qTo l 0 = [34] := rfl
theorem qTo_succ {l : List UInt8} {k : Nat} {b : UInt8} (h : l[k]? = some b) : qTo l (k + 1) = qTo l k ++ qB b := by
  have hlt : k < l.length := by
    rcases Nat.lt_or_ge k l.length with h1 | h1
    · exact h1
    · rw [List.getElem?_eq_none h1] at h; cases h
  have : l.take (k + 1) = l.take k ++ [b] := by
    rw [List.take_succ_eq_append_getElem hlt]
    rw [List.getElem?_eq_getElem hlt] at h
    rw [Option.some.inj h]
  simp [qTo, this]
theorem qTo_le (l : List UInt8) (k : Nat) : (qTo l k).length ≤ 1 + 4 * k := by
  have h1 := flat_le (l.take k)
  have h2 : (l.take k).length ≤ k := List.length_take_le _ _
  simp only [qTo, List.length_cons]
  omega
theorem qTo_end (l : List UInt8) : qTo l l.length ++ [34] = quoteL l := by simp [qTo, quoteL]

theorem own_next {l : List UInt8} {k : Nat} {b : UInt8} {cs : List Value} {w : World} {B m : Nat} {e : TypeId} {v : Value} (hb : l[k]? = some b) (hq : bv (qB b) = cs)
    (h : w.ownsRow B e 1 v m (bv (qTo l k) ++ cs)) : w.ownsRow B e 1 v m (bv (qTo l (k + 1))) := by
  rw [qTo_succ hb, bv_append, hq]; exact h

set_option maxHeartbeats 2000000 in
set_option maxRecDepth 100000 in
theorem refQuote_any (s : ByteArray) (hs : s.size ≤ 2147483647) (w : World) :
    Calls Tryd.prog 40 #[.string s] w fun e w' => e = .returned (.string ⟨(quoteL s.data.toList).toArray⟩) ∧ Below w.heap.size w w' := by
  obtain ⟨i0, hi, hz0, hz1, hz2⟩ := info_parts Tryd.infoByte
  go_enter Tryd.func40, Tryd.ntmps40
  go_wp2_with fail
  go_loopw [3, 4] (fun v i wr => ∃ k n g cap : Nat, k ≤ s.size ∧ i = .int .i64 k ∧ v = .slice (some ⟨g, 0, none⟩) n cap ∧ n ≤ 1 + 4 * k ∧ wr.ownsRow w.heap.size 5 1 (.slice (some ⟨g, 0, none⟩) n cap) n (bv (qTo s.data.toList k)) ∧ Below w.heap.size w wr) (fun _ i _ => s.size - (intOf i).toNat)
  case atStart => exact ⟨0, 1, w.heap.size, 1, by omega, rfl, rfl, by omega, World.ownsRow_lit w #[.int .u8 34] 1 (Nat.le_refl _) (by decide) rfl, (Below.refl _ _).alloc (Nat.le_refl _) _⟩
  case round =>
    obtain ⟨k, n, g, cap, hk, rfl, rfl, hn, hown, hb⟩ := hrel
    have Hown := Lib.hid hown
    have Hb := Lib.hid hb
    have hsz := hb.size
    clear hown hb
    by_cases hlt : k < s.size
    · obtain ⟨b, hbl, hbk, hb0, hb1⟩ := byteAt s k hlt
      have Hbl := Lib.hid hbl
      clear hbl
      by_cases h34 : b.toNat = 34 ∨ b.toNat = 92
      · have Hq : Hid (qB b = [92, b]) := by show _ = _; unfold qB; rw [if_pos h34]
        rcases (show ((b.toNat : Int) == 34) = true ∨ (((b.toNat : Int) == 34) = false ∧ ((b.toNat : Int) == 92) = true) from by
          rcases h34 with h | h
          · exact .inl (by rw [h]; rfl)
          · exact .inr ⟨by rw [h]; rfl, by rw [h]; rfl⟩) with e1 | ⟨e1, e2⟩
        all_goals
            clear h34
            go_wp2_with (at_builtin; go_must (refine wpList_append_lit rfl _ _ 32 rfl 5 i0 _ 1 Tryd.underlying32 hi hz0 hz1 hz2 rfl _ 2 (by omega) (by rfl) (by rfl) w.heap.size _ n _ (by rfl) Hown.out (by simp [Value.oneCell']) (by omega) (by omega) (by omega) ?_))
            intro g' cap' w1 hown1 hgrow hat hz hlt1
            have HO1 := Lib.hid (own_next Hbl.out (by rw [Hq.out]; rfl) hown1)
            have HB1 := Lib.hid (below_grown_own Hb.out Hown.out hgrow hsz)
            clear hown1 hgrow hat
            go_wp2_with fail
            go_roundw
            case rel => exact ⟨k + 1, n + 2, g', cap', by omega, by go_num, rfl, by omega, HO1.out, HB1.out⟩
            case measure => simp [intOf]; omega
      · have e1 : ((b.toNat : Int) == 34) = false := by simp only [beq_eq_false_iff_ne]; omega
        have e2 : ((b.toNat : Int) == 92) = false := by simp only [beq_eq_false_iff_ne]; omega
        by_cases hp : 32 ≤ b.toNat ∧ b.toNat ≤ 126
        · obtain ⟨p1, p2⟩ := hp
          have Hq : Hid (qB b = [b]) := by show _ = _; unfold qB; rw [if_neg h34, if_pos ⟨p1, p2⟩]
          have p1' : (32 : Int) ≤ (b.toNat : Int) := by omega
          have p2' : (b.toNat : Int) ≤ 126 := by omega
          clear h34 p1 p2
          focus
            go_wp2_with (at_builtin; go_must (refine wpList_append_lit rfl _ _ 32 rfl 5 i0 _ 1 Tryd.underlying32 hi hz0 hz1 hz2 rfl _ 1 (by omega) (by rfl) (by rfl) w.heap.size _ n _ (by rfl) Hown.out (by simp [Value.oneCell']) (by omega) (by omega) (by omega) ?_))
            intro g' cap' w1 hown1 hgrow hat hz hlt1
            have HO1 := Lib.hid (own_next Hbl.out (by rw [Hq.out]; rfl) hown1)
            have HB1 := Lib.hid (below_grown_own Hb.out Hown.out hgrow hsz)
            clear hown1 hgrow hat
            go_wp2_with fail
            go_roundw
            case rel => exact ⟨k + 1, n + 1, g', cap', by omega, by go_num, rfl, by omega, HO1.out, HB1.out⟩
            case measure => simp [intOf]; omega
        · have Hq : Hid (qB b = [92, 120, hexd (b.toNat / 16), hexd (b.toNat % 16)]) := by show _ = _; unfold qB; rw [if_neg h34, if_neg hp]
          clear h34
          rcases (show (b.toNat : Int) < 32 ∨ (126 : Int) < (b.toNat : Int) by omega) with hp' | hp'
          all_goals
            clear hp
            have e3 : IntKind.u8.wrap ((b.toNat : Int) / 16) = ((b.toNat / 16 : Nat) : Int) := IntWalk.u8_in _ ⟨by omega, by omega⟩
            have e4 : (b.toNat : Int).tmod 16 = ((b.toNat % 16 : Nat) : Int) := IntWalk.rem_in _ _ (by omega)
            have x3 := hexIx (b.toNat / 16) (by omega)
            have x4 := hexIx (b.toNat % 16) (by omega)
            have y3 : ((b.toNat / 16 : Nat) : Int) < 16 := by omega
            have y4 : ((b.toNat % 16 : Nat) : Int) < 16 := by omega
            have z3 : (0 : Int) ≤ ((b.toNat / 16 : Nat) : Int) := by omega
            have z4 : (0 : Int) ≤ ((b.toNat % 16 : Nat) : Int) := by omega
            generalize b.toNat / 16 = d1 at *
            generalize b.toNat % 16 = d2 at *
            go_wp2_with fail
            go_region_held3 (fun _ => True) (trivial) ((refine step_append_lit (by rfl) _ _ 32 (by rfl) 5 i0 _ 1 Tryd.underlying32 hi hz0 hz1 hz2 rfl _ 4 (by omega) (by rfl) (by rfl) w.heap.size _ n _ (by rfl) Hown.out (by simp [Value.oneCell']) (by omega) (by omega) (by omega) ?_; intro g' cap' w1 hown1 hgrow hat hz hlt1))
            all_goals
              have HO1 := Lib.hid (own_next Hbl.out (by rw [Hq.out]; rfl) hown1)
              have HB1 := Lib.hid (below_grown_own Hb.out Hown.out hgrow hsz)
              clear hown1 hgrow hat
              go_wp2_with fail
              go_roundw
              case rel => exact ⟨k + 1, n + 4, g', cap', by omega, by go_num, rfl, by omega, HO1.out, HB1.out⟩
              case measure => simp [intOf]; omega
    · obtain rfl : k = s.size := by omega
      go_wp2_with (at_builtin; go_must (refine wpList_append_lit rfl _ _ 32 rfl 5 i0 _ 1 Tryd.underlying32 hi hz0 hz1 hz2 rfl _ 1 (by omega) (by rfl) (by rfl) w.heap.size _ n _ (by rfl) Hown.out (by simp [Value.oneCell']) (by omega) (by omega) (by omega) ?_))
      intro g' cap' w1 hown1 hgrow hat hz hlt1
      have HB1 := Lib.hid (below_grown_own Hb.out Hown.out hgrow hsz)
      have HO1 : Hid (w1.ownsRow w.heap.size 5 1 (.slice (some ⟨g', 0, none⟩) (n + 1) cap') (n + 1) (bv (quoteL s.data.toList))) := by
        show w1.ownsRow _ _ _ _ _ _
        rw [← qTo_end, bv_append, show s.data.toList.length = s.size by simp]
        exact hown1
      clear hown1 hgrow hat
      refine wpList_string_of_own rfl 32 9 5 _ rfl w.heap.size _ _ _ (by rfl) HO1.out Tryd.underlying32 Tryd.underlying5 Tryd.underlying9 ?_
      go_wp2_with fail
      go_ret
      exact ⟨rfl, HB1.out⟩
end Go.Proofs.YtkbamhecbfocbaaDoor.gl
