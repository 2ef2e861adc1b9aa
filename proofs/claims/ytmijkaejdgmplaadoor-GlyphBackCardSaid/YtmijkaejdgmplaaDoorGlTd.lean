/- tinderboxlaw02.GlyphBack returns true of any two texts: the walk. Conditions: the two tables of package glyph hold what the program's text lays. -/
import Derived.Test.YtmijkaejdgmplaaDoorGlTc
namespace Go.Proofs.YtmijkaejdgmplaaDoor.gl
open Go.ChangeShapes Go.WideShapes Go.ChangeAt Go.RowKit

set_option maxHeartbeats 4000000 in
set_option maxRecDepth 100000 in
theorem back_any (s t : ByteArray) (hs : s.size ≤ maxLen) (ht : t.size ≤ maxLen) (w : World) (hG : Glo w) : Calls Tryd.prog 10 #[.string s, .string t] w fun e w' => e = .returned (.bool true) ∧ Below w.heap.size w w' := by
  have HG := Lib.hid hG
  clear hG
  unfold maxLen at hs ht
  go_enter Tryd.func10, Tryd.ntmps10
  go_wp2_with fail
  refine (addsUp_any (s.size : Int) (t.size : Int) (by omega) (by omega) _).mono ?_
  rintro e w0 ⟨rfl, rfl⟩
  by_cases hbig : addsV (s.size : Int) (t.size : Int) > 134217727
  · go_wp2_with fail
    go_ret
    exact ⟨rfl, Below.refl _ _⟩
  have hsz : s.size ≤ 134217727 ∧ t.size ≤ 134217727 := by
    unfold addsV at hbig
    split at hbig <;> omega
  obtain ⟨hs1, ht1⟩ := hsz
  generalize addsV (s.size : Int) (t.size : Int) = av at hbig
  go_wp2_with fail
  refine (awake_any _ HG.out).mono ?_
  rintro e w1 ⟨rfl, hb⟩
  have HB1 := Lib.hid hb
  have HG1 := Lib.hid (HG.out.below hb (Nat.le_refl _))
  clear hb
  go_wp2_with fail
  refine (Quote_any s (by omega) _).mono ?_
  rintro e w2 ⟨rfl, hb⟩
  have HB2 := Lib.hid (HB1.out.trans (hb.mono HB1.out.size))
  have HG2 := Lib.hid (HG1.out.below hb (Nat.le_refl _))
  clear hb
  obtain ⟨q, hq⟩ : ∃ q : ByteArray, q = ⟨(quoteL s.data.toList).toArray⟩ := ⟨_, rfl⟩
  have HQ : Hid (quoteL s.data.toList = q.data.toList) := Lib.hid (by rw [hq, ba_list])
  have hql : q.size ≤ 4 * s.size + 2 := by rw [← ba_len q, ← HQ.out, ← ba_len s]; exact quoteL_le _
  rw [← hq]
  clear hq
  go_wp2_with fail
  refine (Unquote_good q s.data.toList HQ.out (by omega) _).mono ?_
  rintro e w3 ⟨rfl, hb⟩
  have HB3 := Lib.hid (HB2.out.trans (hb.mono HB2.out.size))
  have HG3 := Lib.hid (HG2.out.below hb (Nat.le_refl _))
  clear hb
  rw [ba_self]
  go_wp2_with fail
  go_loop [9] (fun i => ∃ k : Nat, k ≤ q.size ∧ i = .int .i64 (k : Int)) (fun i => (q.size - intOf i).toNat)
  case atStart => exact ⟨0, by omega, rfl⟩
  case round =>
    obtain ⟨k, hk, rfl⟩ := hrel
    by_cases hlt : k < q.size
    · obtain ⟨b, hbl, hbq, hb0, hb1⟩ := byteAt q k hlt
      have hpr : 32 ≤ b.toNat ∧ b.toNat ≤ 126 := quoteL_print s.data.toList b (by rw [HQ.out]; exact List.mem_of_getElem? hbl)
      clear hbl
      go_wp2_with fail
      go_round
      case rel => exact ⟨k + 1, by omega, by go_num⟩
      case measure => simp [intOf]; omega
    · obtain rfl : k = q.size := by omega
      go_wp2_with fail
      refine (Unquote_any t (by omega) _).mono ?_
      rintro e w4 ⟨rfl, hb⟩
      have HB4 := Lib.hid (HB3.out.trans (hb.mono HB3.out.size))
      have HG4 := Lib.hid (HG3.out.below hb (Nat.le_refl _))
      clear hb
      unfold unqV
      have H2 := Lib.hid (unq_two t.data.toList)
      have hvl := unq_le t.data.toList
      rw [ba_len] at hvl
      obtain ⟨v, hv⟩ : ∃ v : ByteArray, v = ⟨(unqL t.data.toList).toArray⟩ := ⟨_, rfl⟩
      have hvs : v.size ≤ t.size := by rw [hv, ba_size]; exact hvl
      rw [← hv]
      have HV : Hid (v.data.toList = unqL t.data.toList) := Lib.hid (by rw [hv, ba_list])
      rw [← HV.out] at H2
      clear hv hvl HV
      generalize unqE t.data.toList = f at *
      go_wp2_with fail
      refine (Quote_any v (by omega) _).mono ?_
      rintro e w5 ⟨rfl, hb⟩
      have HB5 := Lib.hid (HB4.out.trans (hb.mono HB4.out.size))
      have HG5 := Lib.hid (HG4.out.below hb (Nat.le_refl _))
      clear hb
      obtain ⟨ag, hag⟩ : ∃ ag : ByteArray, ag = ⟨(quoteL v.data.toList).toArray⟩ := ⟨_, rfl⟩
      rw [← hag]
      have HAG := Lib.hid hag
      clear hag
      go_wp2_with fail
      refine (IsName_any t (by omega) _ HG5.out).mono ?_
      rintro e w6 ⟨rfl, hb⟩
      have HB6 := Lib.hid (HB5.out.trans (hb.mono HB5.out.size))
      have HG6 := Lib.hid (HG5.out.below hb (Nat.le_refl _))
      clear hb
      go_wp2_with fail
      refine (IsWord_any t (by omega) _ HG6.out).mono ?_
      rintro e w7 ⟨rfl, hb⟩
      have HB7 := Lib.hid (HB6.out.trans (hb.mono HB6.out.size))
      have HG7 := Lib.hid (HG6.out.below hb (Nat.le_refl _))
      clear hb
      have HNW : Hid (nameL t.data.toList = true → wordL t.data.toList = true) := Lib.hid name_word
      generalize nameL t.data.toList = nm at *
      generalize wordL t.data.toList = wd at *
      go_wp2_with fail
      refine (Fold_any t (by omega) _ HG7.out).mono ?_
      rintro e w8 ⟨rfl, hb⟩
      have HB8 := Lib.hid (HB7.out.trans (hb.mono HB7.out.size))
      have HG8 := Lib.hid (HG7.out.below hb (Nat.le_refl _))
      clear hb
      obtain ⟨fd, hfd⟩ : ∃ fd : ByteArray, fd = ⟨(foldL t.data.toList).toArray⟩ := ⟨_, rfl⟩
      have HF : Hid (fd.data.toList = foldL t.data.toList) := Lib.hid (by rw [hfd, ba_list])
      have hfs : fd.size = t.size := by rw [← ba_len fd, HF.out, foldL_length, ba_len]
      rw [← hfd]
      clear hfd
      go_wp2_with fail
      refine (Fold_any fd (by omega) _ HG8.out).mono ?_
      rintro e w9 ⟨rfl, hb⟩
      have HB9 := Lib.hid (HB8.out.trans (hb.mono HB8.out.size))
      have HG9 := Lib.hid (HG8.out.below hb (Nat.le_refl _))
      clear hb
      rw [show (⟨(foldL fd.data.toList).toArray⟩ : ByteArray) = fd by rw [HF.out, foldL_twice, ← HF.out, ba_self]]
      go_wp2_with fail
      go_loopw [16] (fun i wr => ∃ k : Nat, k ≤ t.size ∧ i = .int .i64 (k : Int) ∧ Below w9.heap.size w9 wr) (fun i _ => (t.size - intOf i).toNat)
      case atStart => exact ⟨0, by omega, rfl, Below.refl _ _⟩
      case round =>
        obtain ⟨k, hk, rfl, hb⟩ := hrel
        have HR := Lib.hid hb
        have HGr := Lib.hid (HG9.out.below hb (Nat.le_refl _))
        clear hb
        by_cases hlt : k < t.size
        · obtain ⟨b, hbl, hbt, hb0, hb1⟩ := byteAt t k hlt
          obtain ⟨b', hbl', hbf, hb0', hb1'⟩ := byteAt fd k (by omega)
          have hbb : b' = foldB b := by
            rw [HF.out] at hbl'
            unfold foldL at hbl'
            rw [List.getElem?_map, hbl] at hbl'
            exact (Option.some.inj hbl').symm
          have hcf := cls_fold b
          rw [← hbb] at hcf
          have HCF := Lib.hid hcf
          clear hbl hbl' hbb hcf
          go_wp2_with fail
          refine (Class_any (b.toNat : Int) _ HGr.out).mono ?_
          rintro e wa ⟨rfl, hb⟩
          have HBa := Lib.hid (HR.out.trans (hb.mono HR.out.size))
          have HGa := Lib.hid (HGr.out.below hb (Nat.le_refl _))
          clear hb
          go_wp2_with fail
          refine (Class_any (b'.toNat : Int) _ HGa.out).mono ?_
          rintro e wb ⟨rfl, hb⟩
          have HBb := Lib.hid (HBa.out.trans (hb.mono HBa.out.size))
          clear hb
          rcases HCF.out with ⟨h65, h90, hc, hd, hbe⟩ | ⟨hbe, hc⟩
          · rw [hc, hd]
            have hw32 : IntKind.u8.wrap ((b.toNat : Int) + 32) = (b.toNat : Int) + 32 := by rw [IntKind.wrap_u8]; omega
            go_wp2_with fail
            go_quiet (fail)
            go_wp2_with fail
            go_roundw
            case rel => exact ⟨k + 1, by omega, by go_num, ⟨HBb.out.os, HBb.out.tape, HBb.out.output, HBb.out.size, HBb.out.block⟩⟩
            case measure => simp [intOf]; omega
          · subst hbe
            generalize cls (b'.toNat : Int) = c at *
            have hc' : (c != 2) = true := by simpa using hc
            go_wp2_with fail
            go_quiet (fail)
            go_wp2_with fail
            go_roundw
            case rel => exact ⟨k + 1, by omega, by go_num, ⟨HBb.out.os, HBb.out.tape, HBb.out.output, HBb.out.size, HBb.out.block⟩⟩
            case measure => simp [intOf]; omega
        · obtain rfl : k = t.size := by omega
          rcases H2.out with ⟨rfl, hv⟩ | ⟨rfl, hv⟩
          · have hta : ag = t := by rw [HAG.out, hv, ba_self]
            subst hta
            clear hv
            cases nm with
            | false =>
              go_wp2_with fail
              go_ret
              exact ⟨rfl, HB9.out.trans (HR.out.mono HB9.out.size)⟩
            | true =>
              have hw := HNW.out rfl
              subst hw
              go_wp2_with fail
              go_ret
              exact ⟨rfl, HB9.out.trans (HR.out.mono HB9.out.size)⟩
          · have hv0 : v = ⟨#[]⟩ := by rw [← ba_self v, hv]
            subst hv0
            clear hv
            cases nm with
            | false =>
              go_wp2_with fail
              go_ret
              exact ⟨rfl, HB9.out.trans (HR.out.mono HB9.out.size)⟩
            | true =>
              have hw := HNW.out rfl
              subst hw
              go_wp2_with fail
              go_ret
              exact ⟨rfl, HB9.out.trans (HR.out.mono HB9.out.size)⟩
end Go.Proofs.YtmijkaejdgmplaaDoor.gl
