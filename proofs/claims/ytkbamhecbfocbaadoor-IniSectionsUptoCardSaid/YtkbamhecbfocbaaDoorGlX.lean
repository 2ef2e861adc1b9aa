/- The reference's Unquote and glyph.Unquote return one plain function of bytes. Condition: the text is no longer than 536870911 bytes. -/
import Derived.Test.YtkbamhecbfocbaaDoorGlV
import Derived.Test.YtkbamhecbfocbaaDoorGlR
import Derived.Test.YtkbamhecbfocbaaDoorGlW
import Derived.Deep.QuietTactic
import Derived.BigQuiet
import Derived.Deep.LoopGhost
namespace Go.Proofs.YtkbamhecbfocbaaDoor.gl
open Go.ChangeShapes Go.WideShapes Go.ChangeAt Go.RowKit

/-- What Unquote hands back. -/
noncomputable def unqV (l : List UInt8) : Value := .tuple #[.string ⟨(unqL l).toArray⟩, .int .i64 (unqE l)]
theorem unq_bad {l : List UInt8} (h : ∀ x, quoteL x ≠ l) : Ending.returned (.tuple #[.string ⟨#[]⟩, .int .i64 20]) = .returned (unqV l) := by
  unfold unqV
  rw [(unqL_no h).1, (unqL_no h).2]
theorem unq_good {l x : List UInt8} (h : quoteL x = l) : Ending.returned (.tuple #[.string ⟨x.toArray⟩, .int .i64 0]) = .returned (unqV l) := by
  unfold unqV
  rw [(unqL_yes h).1, (unqL_yes h).2]
theorem short_bad {l : List UInt8} (h : l.length < 2) : ∀ x, quoteL x ≠ l := fun x hx => by have := (inner_of_quote hx).1; omega
theorem first_bad {l : List UInt8} {b : UInt8} (h0 : l[0]? = some b) (h : b.toNat ≠ 34) : ∀ x, quoteL x ≠ l := fun x hx => by
  have := (inner_of_quote hx).2.1
  rw [this] at h0
  have := Option.some.inj h0
  subst this
  exact h rfl
theorem last_bad {l : List UInt8} {b : UInt8} {n : Nat} (hn : l.length = n) (h0 : l[n - 1]? = some b) (h : b.toNat ≠ 34) : ∀ x, quoteL x ≠ l := fun x hx => by
  subst hn
  have := (inner_of_quote hx).2.2.1
  rw [this] at h0
  have := Option.some.inj h0
  subst this
  exact h rfl
theorem is34 {b : UInt8} (h : b.toNat = 34) : b = 34 := UInt8.toNat_inj.1 (by rw [h]; rfl)

theorem drop_data (s : ByteArray) (k : Nat) : (s.extract k s.size).data.toList = s.data.toList.drop k := by
  rw [extract_toList, List.take_of_length_le (by simp)]
theorem toList_len (s : ByteArray) : s.data.toList.length = s.size := by simp

set_option maxHeartbeats 4000000 in
set_option maxRecDepth 100000 in
theorem refUnquote_any (s : ByteArray) (hs : s.size ≤ 536870911) (w : World) :
    Calls Tryd.prog 121 #[.string s] w fun e w' => e = .returned (unqV s.data.toList) ∧ Below w.heap.size w w' := by
  obtain ⟨i0, hi, hz0, hz1, hz2⟩ := info_parts Tryd.infoByte
  by_cases h2 : s.size < 2
  · have Hu := Lib.hid (unq_bad (l := s.data.toList) (short_bad (by simpa using h2)))
    go_enter Tryd.func121, Tryd.ntmps121
    go_wp2_with fail
    go_ret2
    exact ⟨Hu.out, Below.refl _ _⟩
  · obtain ⟨a, ha, hak, ha0, ha1⟩ := byteAt s 0 (by omega)
    obtain ⟨z, hz, hzk, hz0', hz1'⟩ := byteAt s (s.size - 1) (by omega)
    have h2' : 2 ≤ s.size := by omega
    have elen : ((s.size : Int) - 1).toNat = s.size - 1 := by omega
    clear h2
    by_cases ha34 : a.toNat = 34
    · have e1 : ((a.toNat : Int) != 34) = false := by rw [ha34]; rfl
      by_cases hz34 : z.toNat = 34
      · have e2 : ((z.toNat : Int) != 34) = false := by rw [hz34]; rfl
        have Hz : Hid (∀ x : List UInt8, (s.data.toList.drop 1).take (s.data.toList.length - 2) = x.flatMap qB → quoteL x = s.data.toList) := fun x hx =>
          quote_of_inner (by simpa using h2') (by rw [ha, is34 ha34]) (by rw [toList_len, hz, is34 hz34]) hx
        have Hi : Hid (∀ x : List UInt8, quoteL x = s.data.toList → (s.data.toList.drop 1).take (s.data.toList.length - 2) = x.flatMap qB) := fun x hx => (inner_of_quote hx).2.2.2
        have Hin : Hid ((s.extract 1 (s.size - 1)).data.toList = (s.data.toList.drop 1).take (s.data.toList.length - 2)) := by
          show _ = _
          rw [extract_toList, toList_len, show s.size - 1 - 1 = s.size - 2 by omega]
        have hle : (s.extract 1 (s.size - 1)).size ≤ s.size := extract_size_le _ _ _
        clear ha hz ha34 hz34
        generalize (s.data.toList.drop 1).take (s.data.toList.length - 2) = inner at *
        go_enter Tryd.func121, Tryd.ntmps121
        go_wp2_with fail
        go_loopg [0, 4] s.size (fun gs v0 v wr => ∃ (r : ByteArray) (out : List UInt8), r.size ≤ gs ∧ v0 = .string r ∧ inner = out.flatMap qB ++ r.data.toList ∧ wr.ownsRow w.heap.size 5 1 v out.length (bv out) ∧ out.length + r.size ≤ s.size ∧ Below w.heap.size w wr)
        case atStart => exact ⟨_, [], hle, rfl, by rw [Hin.out]; rfl, World.ownsRow_nil _ _ _ _, by simpa using hle, Below.refl _ _⟩
        case round =>
          obtain ⟨r, out, hrg, rfl, hinn, hown, hsum, hb⟩ := hrel
          have Hinn := Lib.hid hinn
          have Hown := Lib.hid hown
          have Hb := Lib.hid hb
          have hsz := hb.size
          clear hinn hown hb
          by_cases hr : r.size = 0
          · have hnil := toList_nil hr
            have Hq : Hid (quoteL out = s.data.toList) := by
              show _ = _
              refine Hz.out out ?_
              rw [Hinn.out, List.eq_nil_of_length_eq_zero (show r.data.toList.length = 0 by simpa using hr), List.append_nil]
            clear hr
            have hrun := run_string_of_own (P := Tryd.prog) wr 32 5 9 Tryd.underlying32 Tryd.underlying5 Tryd.underlying9 _ _ _ _ Hown.out
            go_wp2_with fail
            go_ret2
            exact ⟨unq_good Hq.out, Hb.out⟩
          · have hne := toList_ne hr
            have hr1 : 1 ≤ r.size := by omega
            clear hr
            go_wp2_with fail
            refine (next_any r hr1 (by omega) _).mono ?_
            rintro e w1 ⟨rfl, rfl⟩
            cases hnx : nextL r.data.toList with
            | mk c n =>
              by_cases hn0 : n = 0
              · have hn0' : ((n : Int) == 0) = true := by rw [hn0]; rfl
                have Hbad : Hid (∀ x, quoteL x ≠ s.data.toList) := fun x hx =>
                  strict_fail Hinn.out (by intro e; have := congrArg List.length e; rw [toList_len, List.length_nil] at this; omega) (by rw [hnx]; exact hn0) x (Hi.out x hx)
                have Hu := Lib.hid (unq_bad Hbad.out)
                clear hnx hn0
                go_wp2_with fail
                go_ret2
                exact ⟨Hu.out, Hb.out⟩
              · have hn0' : ((n : Int) == 0) = false := by simp only [beq_eq_false_iff_ne]; omega
                have hok := nextL_ok hnx hn0
                have hnle : n ≤ r.size := by
                  have := congrArg List.length hok.1
                  rw [List.length_append, ← hok.2, List.length_drop, toList_len] at this
                  omega
                have Hst := Lib.hid (strict_step Hinn.out hnx hn0)
                have Hdd : Hid ((r.extract n r.size).data.toList = r.data.toList.drop n) := drop_data r n
                have hes : (r.extract n r.size).size = r.size - n := by rw [ByteArray.size_extract]; omega
                have hn1 : 1 ≤ n := by omega
                have Hes := Lib.hid hes
                clear hnx hn0 hok hes
                go_wp2_with (at_builtin; go_must (refine wpList_append_lit rfl _ _ 32 rfl 5 i0 _ 1 Tryd.underlying32 hi hz0 hz1 hz2 rfl _ 1 (by omega) (by rfl) (by rfl) w.heap.size _ out.length _ (by rfl) Hown.out (by simp [Value.oneCell']) (by omega) (by omega) (by omega) ?_))
                intro g' cap' w2 hown1 hgrow hat hzz hlt1
                have HO1 : Hid (w2.ownsRow w.heap.size 5 1 (.slice (some ⟨g', 0, none⟩) (out.length + 1) cap') (out ++ [c]).length (bv (out ++ [c]))) := by
                  show w2.ownsRow _ _ _ _ _ _
                  rw [bv_append, List.length_append]
                  exact hown1
                have HB1 := Lib.hid (below_grown_own Hb.out Hown.out hgrow hsz)
                clear hown1 hgrow hat
                go_wp2_with fail
                go_roundg (r.size - n)
                case rel => exact ⟨_, out ++ [c], by rw [Hes.out]; omega, rfl, by rw [Hdd.out]; exact Hst.out, HO1.out, by rw [Hes.out, List.length_append, List.length_singleton]; omega, HB1.out⟩
                case measure => omega
      · have e2 : ((z.toNat : Int) != 34) = true := by simp only [bne_iff_ne]; omega
        have Hu := Lib.hid (unq_bad (l := s.data.toList) (last_bad (toList_len s) hz hz34))
        clear ha hz ha34 hz34
        go_enter Tryd.func121, Tryd.ntmps121
        go_wp2_with fail
        go_ret2
        exact ⟨Hu.out, Below.refl _ _⟩
    · have e1 : ((a.toNat : Int) != 34) = true := by simp only [bne_iff_ne]; omega
      have Hu := Lib.hid (unq_bad (l := s.data.toList) (first_bad ha ha34))
      clear ha hz ha34
      go_enter Tryd.func121, Tryd.ntmps121
      go_wp2_with fail
      go_ret2
      exact ⟨Hu.out, Below.refl _ _⟩
end Go.Proofs.YtkbamhecbfocbaaDoor.gl
