/- Names: a plain function of bytes, and the reference's IsName, which returns it. Condition: the text is no longer than 2147483647 bytes. -/
import Derived.Test.YtpfhhaonfbfheaaGreatDoorGlC
import Derived.Test.YtpfhhaonfbfheaaGreatDoorPl
namespace Go.Proofs.YtpfhhaonfbfheaaGreatDoor.gl
open Go.ChangeShapes Go.WideShapes Go.ChangeAt Go.RowKit

/-- A name. -/
def nameL (l : List UInt8) : Bool := decide (l.length ≤ 32) && decide ((pcs 46 l).length ≤ 3) && (pcs 46 l).all partL

/-- k bytes have been passed, the part that is read begins at f, n - 1 parts have been read and are parts. -/
structure Scan (l : List UInt8) (n f k : Nat) : Prop where
  le : f ≤ k
  all : (pcs 46 l).all partL = (pcs 46 (l.drop f)).all partL
  len : (pcs 46 l).length + 1 = n + (pcs 46 (l.drop f)).length
  free : ∀ j, f ≤ j → j < k → l[j]? ≠ some 46
  many : 1 ≤ n ∧ n ≤ k + 1
theorem Scan.start (l : List UInt8) : Scan l 1 0 0 := ⟨by omega, rfl, by simp; omega, fun j _ h => by omega, by omega⟩
theorem Scan.pass {l : List UInt8} {n f k : Nat} {b : UInt8} (h : Scan l n f k) (hb : l[k]? = some b) (hne : b ≠ 46) : Scan l n f (k + 1) :=
  ⟨by have := h.le; omega, h.all, h.len, fun j h1 h2 => by
    rcases Nat.lt_or_ge j k with h3 | h3
    · exact h.free j h1 h3
    · obtain rfl : j = k := by omega
      rw [hb]; exact fun e => hne (Option.some.inj e), by have := h.many; omega⟩
theorem Scan.piece {l : List UInt8} {n f k : Nat} (h : Scan l n f k) (hb : l[k]? = some 46) : pcs 46 (l.drop f) = (l.drop f).take (k - f) :: pcs 46 (l.drop (k + 1)) := by
  have hle := h.le
  have := pcs_hit 46 (k - f) (l.drop f) (fun j hj => by rw [List.getElem?_drop]; exact h.free (f + j) (by omega) (by omega)) (by rw [List.getElem?_drop, show f + (k - f) = k by omega]; exact hb)
  rw [List.drop_drop, show f + (k - f + 1) = k + 1 by omega] at this
  exact this
theorem Scan.hit {l : List UInt8} {n f k : Nat} (h : Scan l n f k) (hb : l[k]? = some 46) (hp : partL ((l.drop f).take (k - f)) = true) : Scan l (n + 1) (k + 1) (k + 1) := by
  have e := h.piece hb
  refine ⟨Nat.le_refl _, ?_, ?_, fun j h1 h2 => by omega, by have := h.many; omega⟩
  · rw [h.all, e, List.all_cons, hp, Bool.true_and]
  · have := h.len; rw [e, List.length_cons] at this; omega
theorem Scan.bad {l : List UInt8} {n f k : Nat} (h : Scan l n f k) (hb : l[k]? = some 46) (hp : partL ((l.drop f).take (k - f)) = false) : nameL l = false := by
  unfold nameL
  rw [h.all, h.piece hb, List.all_cons, hp, Bool.false_and, Bool.and_false]
theorem Scan.last {l : List UInt8} {n f : Nat} (h : Scan l n f l.length) : nameL l = (decide (l.length ≤ 32) && decide (n ≤ 3) && partL (l.drop f)) := by
  have e : pcs 46 (l.drop f) = [l.drop f] := pcs_none 46 _ fun j => by
    rw [List.getElem?_drop]
    rcases Nat.lt_or_ge (f + j) l.length with h1 | h1
    · exact h.free _ (by omega) h1
    · rw [List.getElem?_eq_none h1]; simp
  have hl := h.len
  rw [e] at hl
  simp at hl
  unfold nameL
  rw [h.all, e]
  simp [hl]

theorem extract_toList (s : ByteArray) (a b : Nat) : (s.extract a b).data.toList = (s.data.toList.drop a).take (b - a) := by
  rw [Lib.extract_data]
theorem extract_size_le (s : ByteArray) (a b : Nat) : (s.extract a b).size ≤ s.size := by
  rw [ByteArray.size_extract]; omega

set_option maxHeartbeats 1000000 in
theorem refIsName_any (s : ByteArray) (hs : s.size ≤ 2147483647) (w : World) :
    Calls Tryz.prog 52 #[.string s] w fun e w' => e = .returned (.bool (nameL s.data.toList)) ∧ w = w' := by
  go_enter Tryz.func52, Tryz.ntmps52
  go_wp2_with fail
  go_loop [3, 4, 5] (fun n f i => ∃ nn ff k : Nat, k ≤ s.size ∧ i = .int .i64 k ∧ n = .int .i64 nn ∧ f = .int .i64 ff ∧ Scan s.data.toList nn ff k) (fun _ _ i => s.size - (intOf i).toNat)
  case atStart => exact ⟨1, 0, 0, by omega, rfl, rfl, rfl, Scan.start _⟩
  case round =>
    obtain ⟨nn, ff, k, hk, rfl, rfl, rfl, hsc⟩ := hrel
    have Hsc := Lib.hid hsc
    have hle := hsc.le
    have hm1 := hsc.many.1
    have hm2 := hsc.many.2
    clear hsc
    by_cases hlt : k < s.size
    · obtain ⟨b, hb, hbk, hb0, hb1⟩ := byteAt s k hlt
      have Hb := Lib.hid hb
      clear hb
      by_cases hdot : b = 46
      · subst hdot
        have Hp : Hid ((s.extract ff k).data.toList = (s.data.toList.drop ff).take (k - ff)) := extract_toList s ff k
        go_wp2_with fail
        refine (refPart_any _ (by have := extract_size_le s ff k; omega) _).mono ?_
        rintro e w1 ⟨rfl, rfl⟩
        rw [Hp.out]
        cases hpp : partL ((s.data.toList.drop ff).take (k - ff))
        · have Hpp := Lib.hid hpp
          clear hpp
          go_wp2_with fail
          go_ret
          exact ⟨ret_bool (Hsc.out.bad Hb.out Hpp.out), rfl⟩
        · have Hpp := Lib.hid hpp
          clear hpp
          go_wp2_with fail
          go_round
          case rel => exact ⟨nn + 1, k + 1, k + 1, by omega, by go_num, by go_num, by go_num, Hsc.out.hit Hb.out Hpp.out⟩
          case measure => simp [intOf]; omega
      · have hd : ((b.toNat : Int) == 46) = false := by
          simp only [beq_eq_false_iff_ne]
          intro e
          exact hdot (UInt8.toNat_inj.1 (by show b.toNat = 46; omega))
        have Hd := Lib.hid hdot
        clear hdot
        go_wp2_with fail
        go_round
        case rel => exact ⟨nn, ff, k + 1, by omega, by go_num, rfl, rfl, Hsc.out.pass Hb.out Hd.out⟩
        case measure => simp [intOf]; omega
    · obtain rfl : k = s.size := by omega
      have hlast : nameL s.data.toList = (decide (s.size ≤ 32) && decide (nn ≤ 3) && partL (s.data.toList.drop ff)) := by
        have := Scan.last (l := s.data.toList) (by simpa using Hsc.out)
        simpa using this
      have Hlast := Lib.hid hlast
      clear hlast
      have Hp : Hid ((s.extract ff s.size).data.toList = s.data.toList.drop ff) := by
        show _ = _
        rw [extract_toList, List.take_of_length_le (by simp)]
      go_wp2_with fail
      refine (refPart_any _ (by have := extract_size_le s ff s.size; omega) _).mono ?_
      rintro e w1 ⟨rfl, rfl⟩
      rw [Hp.out]
      cases hpp : partL (s.data.toList.drop ff)
      · have Hpp := Lib.hid hpp
        clear hpp
        go_wp2_with fail
        go_ret
        exact ⟨ret_bool (by rw [Hlast.out, Hpp.out, Bool.and_false]), rfl⟩
      · have Hpp := Lib.hid hpp
        clear hpp
        by_cases h3 : nn ≤ 3
        · by_cases h32 : s.size ≤ 32
          · go_wp2_with fail
            go_ret
            exact ⟨ret_bool (by rw [Hlast.out, Hpp.out, decide_eq_true h3, decide_eq_true h32]; exact (decide_eq_true (by omega)).symm), rfl⟩
          · go_wp2_with fail
            go_ret
            exact ⟨ret_bool (by rw [Hlast.out, Hpp.out, decide_eq_true h3, decide_eq_false h32]; exact (decide_eq_false (by omega)).symm), rfl⟩
        · go_wp2_with fail
          go_ret
          exact ⟨ret_bool (by rw [Hlast.out, Hpp.out, decide_eq_false h3, Bool.and_false, Bool.false_and]), rfl⟩
end Go.Proofs.YtpfhhaonfbfheaaGreatDoor.gl
