/- glyph.Unquote returns the same plain function of bytes as the reference's. Conditions: the tables hold what the text lays; the text is no longer than 536870911 bytes. -/
import Derived.Test.YtkbamhecbfocbaaDoorGlX
import Derived.ShutString
namespace Go.Proofs.YtkbamhecbfocbaaDoor.gl
open Go.ChangeShapes Go.WideShapes Go.ChangeAt Go.RowKit

theorem lst1 {l : List UInt8} {a : UInt8} (h0 : l[0]? = some a) (h : a.toNat ≠ 92 ∨ l.length = 1) : lstep l = (a, 1) := by
  match l, h0 with
  | [x], h0 => simp at h0; subst h0; unfold lstep; simp only; split <;> rfl
  | x :: y :: r, h0 =>
    simp at h0; subst h0
    have : x.toNat ≠ 92 := by rcases h with h | h; exact h; simp at h
    unfold lstep; simp only; rw [if_neg this]
theorem lst2 {l : List UInt8} {a b : UInt8} (h0 : l[0]? = some a) (ha : a.toNat = 92) (h1 : l[1]? = some b) (h : b.toNat ≠ 120 ∨ l.length < 4) : lstep l = (b, 2) := by
  match l, h0, h1, h with
  | [x, y], h0, h1, _ => simp at h0 h1; subst h0 h1; unfold lstep; simp only; rw [if_pos ha]; split <;> rfl
  | [x, y, z], h0, h1, _ => simp at h0 h1; subst h0 h1; unfold lstep; simp only; rw [if_pos ha]; split <;> rfl
  | x :: y :: z :: u :: r, h0, h1, h =>
    simp at h0 h1; subst h0 h1
    have : y.toNat ≠ 120 := by rcases h with h | h; exact h; simp at h; omega
    unfold lstep; simp only; rw [if_pos ha, if_neg this]
theorem lst4 {l : List UInt8} {a b c d : UInt8} (h0 : l[0]? = some a) (ha : a.toNat = 92) (h1 : l[1]? = some b) (hb : b.toNat = 120) (h2 : l[2]? = some c) (h3 : l[3]? = some d) :
    lstep l = (UInt8.ofNat (hbv (digv c) (digv d)).toNat, 4) := by
  match l, h0, h1, h2, h3 with
  | x :: y :: z :: u :: r, h0, h1, h2, h3 => simp at h0 h1 h2 h3; subst h0 h1 h2 h3; unfold lstep; simp only; rw [if_pos ha, if_pos hb]
theorem hbv_bd (x y : Int) : 0 ≤ hbv x y ∧ hbv x y ≤ 255 := by unfold hbv; omega

theorem idxHex (c : UInt8) (w : World) :
    Calls Tryd.prog 89 #[.string ⟨#[48, 49, 50, 51, 52, 53, 54, 55, 56, 57, 97, 98, 99, 100, 101, 102]⟩, .int .u8 (c.toNat : Int)] w fun e w' => e = .returned (.int .i64 (digv c)) ∧ w' = w := by
  refine (Tryd.strings_IndexByte ⟨#[48, 49, 50, 51, 52, 53, 54, 55, 56, 57, 97, 98, 99, 100, 101, 102]⟩ (c.toNat : Int) w).mono ?_
  rintro e w' ⟨rfl, rfl⟩
  refine ⟨?_, rfl⟩
  have hb : ((c.toNat : Int).toNat.toUInt8) = c := by simp
  rw [hb]
  show Ending.returned (.int .i64 (Lib.indexByte [48, 49, 50, 51, 52, 53, 54, 55, 56, 57, 97, 98, 99, 100, 101, 102] c)) = _
  rw [indexByte_hex]

/-- What the loop keeps. -/
structure Lenient (w0 w : World) (inner : List UInt8) (N : Nat) (v : Value) (out : List UInt8) (r : ByteArray) : Prop where
  len : Len inner out r.data.toList
  own : w.ownsRow w0.heap.size 5 1 v out.length (bv out)
  sum : out.length + r.size ≤ N
  bel : Below w0.heap.size w0 w
theorem Lenient.next {w0 w w' : World} {inner : List UInt8} {N n : Nat} {v v' : Value} {out : List UInt8} {r : ByteArray} {c : UInt8} (h : Lenient w0 w inner N v out r) (hr : 1 ≤ r.size) (hs : lstep r.data.toList = (c, n)) (hn : 1 ≤ n ∧ n ≤ r.size)
    (hown : w'.ownsRow w0.heap.size 5 1 v' (out.length + 1) (bv out ++ [.int .u8 (c.toNat : Int)])) (hb : Below w0.heap.size w0 w') : Lenient w0 w' inner N v' (out ++ [c]) (r.extract n r.size) := by
  have hes : (r.extract n r.size).size = r.size - n := by rw [ByteArray.size_extract]; omega
  refine ⟨?_, ?_, ?_, hb⟩
  · rw [drop_data]
    exact h.len.step (by intro e; have := congrArg List.length e; rw [toList_len, List.length_nil] at this; omega) hs
  · rw [bv_append, List.length_append]
    exact hown
  · rw [hes, List.length_append, List.length_singleton]; have := h.sum; omega

set_option maxHeartbeats 8000000 in
set_option maxRecDepth 100000 in
theorem Unquote_any (s : ByteArray) (hs : s.size ≤ 536870911) (w : World) :
    Calls Tryd.prog 113 #[.string s] w fun e w' => e = .returned (unqV s.data.toList) ∧ Below w.heap.size w w' := by
  obtain ⟨i0, hi, hz0, hz1, hz2⟩ := info_parts Tryd.infoByte
  by_cases h2 : s.size < 2
  · have Hu := Lib.hid (unq_bad (l := s.data.toList) (short_bad (by simpa using h2)))
    go_enter Tryd.func113, Tryd.ntmps113
    go_wp2_with fail
    go_ret2
    exact ⟨Hu.out, Below.refl _ _⟩
  · obtain ⟨a, ha, hak, ha0, ha1⟩ := byteAt s 0 (by omega)
    obtain ⟨z, hz, hzk, hz0', hz1'⟩ := byteAt s (s.size - 1) (by omega)
    have h2' : 2 ≤ s.size := by omega
    have elen : ((s.size : Int) - 1).toNat = s.size - 1 := by omega
    clear h2
    by_cases ha34 : a.toNat = 34
    · have e1 : ((a.toNat : Int) != 34) = false := by rw [ha34]; rfl
      by_cases hz34 : z.toNat = 34
      · have e2 : ((z.toNat : Int) != 34) = false := by rw [hz34]; rfl
        have Hi : Hid (∀ x : List UInt8, quoteL x = s.data.toList → (s.data.toList.drop 1).take (s.data.toList.length - 2) = x.flatMap qB) := fun x hx => (inner_of_quote hx).2.2.2
        have Hin : Hid ((s.extract 1 (s.size - 1)).data.toList = (s.data.toList.drop 1).take (s.data.toList.length - 2)) := by
          show _ = _
          rw [extract_toList, toList_len, show s.size - 1 - 1 = s.size - 2 by omega]
        have hle : (s.extract 1 (s.size - 1)).size ≤ s.size := extract_size_le _ _ _
        clear ha hz ha34 hz34
        generalize (s.data.toList.drop 1).take (s.data.toList.length - 2) = inner at *
        go_enter Tryd.func113, Tryd.ntmps113
        go_wp2_with fail
        go_loopg [4, 5] s.size (fun gs v v0 wr => ∃ (r : ByteArray) (out : List UInt8), r.size ≤ gs ∧ v0 = .string r ∧ Lenient w wr inner s.size v out r)
        case atStart => exact ⟨_, [], hle, rfl, by rw [Hin.out]; exact Len.start _, World.ownsRow_nil _ _ _ _, by simpa using hle, Below.refl _ _⟩
        case round =>
          obtain ⟨r, out, hrg, rfl, hlen⟩ := hrel
          have Hlen := Lib.hid hlen
          have hsum := hlen.sum
          have hsz := hlen.bel.size
          clear hlen
          by_cases hr : r.size = 0
          · have hnil := toList_nil hr
            have Hd : Hid (∀ x : List UInt8, quoteL x = s.data.toList → out = x) := fun x hx =>
              Len.done (by have := Hlen.out.len; rwa [List.eq_nil_of_length_eq_zero (show r.data.toList.length = 0 by simpa using hr)] at this) (Hi.out x hx)
            clear hr
            have hrun := fun W (hW : W.ownsRow w.heap.size 5 1 u4 out.length (bv out)) => run_string_of_own (P := Tryd.prog) W 32 5 9 Tryd.underlying32 Tryd.underlying5 Tryd.underlying9 _ _ u4 out hW
            have hrun1 := hrun wr Hlen.out.own
            have Hrun := Lib.hid hrun
            clear hrun
            go_wp2_with fail
            refine (Quote_any ⟨out.toArray⟩ (by rw [size_of_list]; omega) _).mono ?_
            rintro e w1 ⟨rfl, hb1⟩
            have hown1 : w1.ownsRow w.heap.size 5 1 u4 out.length (bv out) := Hlen.out.own.kept (row := none) ⟨hb1.os, hb1.tape, hb1.output, hb1.size, fun k hk _ => hb1.block k hk⟩ (by cases u4.ownBlock <;> simp)
            have hrun2 := Hrun.out w1 hown1
            have HB1 := Lib.hid (Hlen.out.bel.trans (hb1.mono hsz))
            clear hown1 hb1
            by_cases hq : quoteL out = s.data.toList
            · have Hq := Lib.hid hq
              have hq' : (quoteL out == s.toList) = true := by rw [ByteArray.toList_eq, hq]; simp
              clear hq
              go_wp2_with fail
              go_ret2
              exact ⟨unq_good Hq.out, HB1.out⟩
            · have Hq : Hid (∀ x, quoteL x ≠ s.data.toList) := fun x hx => by
                have := Hd.out x hx
                subst this
                exact hq hx
              have hq' : (quoteL out == s.toList) = false := by
                rw [ByteArray.toList_eq]
                simpa using hq
              clear hq
              go_wp2_with fail
              go_ret2
              exact ⟨unq_bad Hq.out, HB1.out⟩
          · have hne := toList_ne hr
            have hr1 : 1 ≤ r.size := by omega
            clear hr
            obtain ⟨b0, hb0, hbk0, hb00, hb01⟩ := byteAt r 0 hr1
            by_cases hp1 : b0.toNat ≠ 92 ∨ r.size = 1
            · have hls := lst1 hb0 (by rcases hp1 with h | h; exact .inl h; exact .inr (by rw [toList_len]; exact h))
              have Hls := Lib.hid hls
              rcases (show ((b0.toNat : Int) == 92) = false ∨ (((b0.toNat : Int) == 92) = true ∧ r.size ≤ 1) from by
                by_cases e : b0.toNat = 92
                · exact .inr ⟨by rw [e]; rfl, by omega⟩
                · exact .inl (by simp only [beq_eq_false_iff_ne]; omega)) with q | ⟨q, q'⟩
              all_goals
                clear hls hb0 hp1
                go_wp2_with (at_builtin; go_must (refine wpList_append_lit rfl _ _ 32 rfl 5 i0 _ 1 Tryd.underlying32 hi hz0 hz1 hz2 rfl _ 1 (by omega) (by rfl) (by rfl) w.heap.size _ out.length _ (by rfl) Hlen.out.own (by simp [Value.oneCell']) (by omega) (by omega) (by omega) ?_))
                intro g' cap' w2 hown1 hgrow hat hzz hlt1
                have HN := Lib.hid (Hlen.out.next hr1 Hls.out (by omega) hown1 (below_grown_own Hlen.out.bel Hlen.out.own hgrow hsz))
                clear hown1 hgrow hat
                go_wp2_with fail
                go_roundg (r.size - 1)
                case rel => exact ⟨_, out ++ [b0], by rw [ByteArray.size_extract]; omega, rfl, HN.out⟩
                case measure => omega
            · obtain ⟨b1, hb1, hbk1, hb10, hb11⟩ := byteAt r 1 (by omega)
              have hr2 : 2 ≤ r.size := by omega
              have h92 : b0.toNat = 92 := by omega
              have q0 : ((b0.toNat : Int) == 92) = true := by rw [h92]; rfl
              by_cases hp2 : b1.toNat ≠ 120 ∨ r.size < 4
              · have Hls := Lib.hid (lst2 hb0 h92 hb1 (by rcases hp2 with h | h; exact .inl h; exact .inr (by rw [toList_len]; exact h)))
                rcases (show ((b1.toNat : Int) == 120) = false ∨ (((b1.toNat : Int) == 120) = true ∧ r.size ≤ 3) from by
                  by_cases e : b1.toNat = 120
                  · exact .inr ⟨by rw [e]; rfl, by omega⟩
                  · exact .inl (by simp only [beq_eq_false_iff_ne]; omega)) with q | ⟨q, q'⟩
                all_goals
                  clear hb0 hb1 hp1 hp2 h92
                  go_wp2_with fail
                  go_quiet (fail)
                  have hown0 : (wr.drewN nq).ownsRow w.heap.size 5 1 u4 out.length (bv out) := Hlen.out.own
                  have hbel0 : Below w.heap.size w (wr.drewN nq) := ⟨Hlen.out.bel.os, Hlen.out.bel.tape, Hlen.out.bel.output, Hlen.out.bel.size, Hlen.out.bel.block⟩
                  have hszq : w.heap.size ≤ (wr.drewN nq).heap.size := hsz
                  generalize wr.drewN nq = wq at *
                  have Hown0 := Lib.hid hown0
                  have Hbel0 := Lib.hid hbel0
                  clear hown0 hbel0
                  go_wp2_with (at_builtin; go_must (refine wpList_append_lit rfl _ _ 32 rfl 5 i0 _ 1 Tryd.underlying32 hi hz0 hz1 hz2 rfl _ 1 (by omega) (by rfl) (by rfl) w.heap.size _ out.length _ (by rfl) Hown0.out (by simp [Value.oneCell']) (by omega) (by omega) (by omega) ?_))
                  intro g' cap' w2 hown1 hgrow hat hzz hlt1
                  have HN := Lib.hid (Hlen.out.next hr1 Hls.out (by omega) hown1 (below_grown_own Hbel0.out Hown0.out hgrow hszq))
                  clear hown1 hgrow hat
                  go_wp2_with fail
                  go_roundg (r.size - 2)
                  case rel => exact ⟨_, out ++ [b1], by rw [ByteArray.size_extract]; omega, rfl, HN.out⟩
                  case measure => omega
              · obtain ⟨c, hc, hck, hc0, hc1⟩ := byteAt r 2 (by omega)
                obtain ⟨d, hd, hdk, hd0, hd1⟩ := byteAt r 3 (by omega)
                have h120 : b1.toNat = 120 := by omega
                have Hls := Lib.hid (lst4 hb0 h92 hb1 h120 hc hd)
                have q1 : ((b1.toNat : Int) == 120) = true := by rw [h120]; rfl
                have hr4 : 4 ≤ r.size := by omega
                obtain ⟨bx0, bx1⟩ := digv_bd c
                obtain ⟨by0, by1⟩ := digv_bd d
                clear hb0 hb1 hc hd hp1 hp2 h92 h120
                go_wp2_with fail
                go_quiet (fail)
                have hown0 : (wr.drewN nq).ownsRow w.heap.size 5 1 u4 out.length (bv out) := Hlen.out.own
                have hbel0 : Below w.heap.size w (wr.drewN nq) := ⟨Hlen.out.bel.os, Hlen.out.bel.tape, Hlen.out.bel.output, Hlen.out.bel.size, Hlen.out.bel.block⟩
                have hszq : w.heap.size ≤ (wr.drewN nq).heap.size := hsz
                generalize wr.drewN nq = wq at *
                have Hown0 := Lib.hid hown0
                have Hbel0 := Lib.hid hbel0
                clear hown0 hbel0
                go_wp2_with fail
                go_quiet ((go_at_call 89; exact Calls.quiet_of_same (idxHex _ _)))
                have hbb := hbv_bd (digv c) (digv d)
                obtain ⟨cb, hcb⟩ : ∃ cb : UInt8, cb = UInt8.ofNat (hbv (digv c) (digv d)).toNat := ⟨_, rfl⟩
                have hv : bits BinOp.or IntKind.i64 (digv c * 16) (bits BinOp.and IntKind.i64 (digv d) 15) % 256 = (cb.toNat : Int) := by
                  rw [hcb, UInt8.toNat_ofNat']
                  show hbv (digv c) (digv d) = _
                  omega
                rw [hv]
                have Hls' : Hid (lstep r.data.toList = (cb, 4)) := by show _ = _; rw [Hls.out, ← hcb]
                clear hv hcb hbb Hls
                have hown1 : (wq.drewN nq).ownsRow w.heap.size 5 1 u4 out.length (bv out) := Hown0.out
                have hbel1 : Below w.heap.size w (wq.drewN nq) := ⟨Hbel0.out.os, Hbel0.out.tape, Hbel0.out.output, Hbel0.out.size, Hbel0.out.block⟩
                have hszq1 : w.heap.size ≤ (wq.drewN nq).heap.size := hszq
                generalize wq.drewN nq = wz at *
                have Hown1 := Lib.hid hown1
                have Hbel1 := Lib.hid hbel1
                clear hown1 hbel1
                go_wp2_with (at_builtin; go_must (refine wpList_append_lit rfl _ _ 32 rfl 5 i0 _ 1 Tryd.underlying32 hi hz0 hz1 hz2 rfl _ 1 (by omega) (by rfl) (by rfl) w.heap.size _ out.length _ (by rfl) Hown1.out (by simp [Value.oneCell']) (by omega) (by omega) (by omega) ?_))
                intro g' cap' w2 hown1 hgrow hat hzz hlt1
                have HN := Lib.hid (Hlen.out.next hr1 Hls'.out (by omega) hown1 (below_grown_own Hbel1.out Hown1.out hgrow hszq1))
                clear hown1 hgrow hat
                go_wp2_with fail
                go_roundg (r.size - 4)
                case rel => exact ⟨_, out ++ [cb], by rw [ByteArray.size_extract]; omega, rfl, HN.out⟩
                case measure => omega
      · have e2 : ((z.toNat : Int) != 34) = true := by simp only [bne_iff_ne]; omega
        have Hu := Lib.hid (unq_bad (l := s.data.toList) (last_bad (toList_len s) hz hz34))
        clear ha hz ha34 hz34
        go_enter Tryd.func113, Tryd.ntmps113
        go_wp2_with fail
        go_ret2
        exact ⟨Hu.out, Below.refl _ _⟩
    · have e1 : ((a.toNat : Int) != 34) = true := by simp only [bne_iff_ne]; omega
      have Hu := Lib.hid (unq_bad (l := s.data.toList) (first_bad ha ha34))
      clear ha hz ha34
      go_enter Tryd.func113, Tryd.ntmps113
      go_wp2_with fail
      go_ret2
      exact ⟨Hu.out, Below.refl _ _⟩
end Go.Proofs.YtkbamhecbfocbaaDoor.gl
