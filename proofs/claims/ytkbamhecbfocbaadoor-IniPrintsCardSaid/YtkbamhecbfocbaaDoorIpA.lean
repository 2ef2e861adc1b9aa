/- ini.bare and ini.Print return plain functions. Conditions: the lengths are in Go's bounds; the tables hold what the text lays. -/
import Derived.Test.YtkbamhecbfocbaaDoorInW
namespace Go.Proofs.YtkbamhecbfocbaaDoor.ini
open Go.ChangeShapes Go.WideShapes Go.ChangeAt Go.RowKit gl
open Go.Maps

theorem ws166 : Go.Proofs.Lays.n166 Tryd.prog Tryd.lays156_ren where
  mixed := Tryd.lays156.mixed
  f166 := Tryd.lays156.f166
  f240 := Tryd.lays156.f240
  f276 := Tryd.lays156.f276
  t0 := Tryd.lays156.t0
  a0 := Tryd.lays156.a0
  z0 := Tryd.lays156.z0
  v0 := Tryd.lays156.v0
  t3 := Tryd.lays156.t3
  a3 := Tryd.lays156.a3
  z3 := Tryd.lays156.z3
  v3 := Tryd.lays156.v3
  t4 := Tryd.lays156.t4
  a4 := Tryd.lays156.a4
  z4 := Tryd.lays156.z4
  v4 := Tryd.lays156.v4
  t9 := Tryd.lays156.t9
  a9 := Tryd.lays156.a9
  z9 := Tryd.lays156.z9
  v9 := Tryd.lays156.v9
  t20 := Tryd.lays156.t20
  a20 := Tryd.lays156.a20
  z20 := Tryd.lays156.z20
  v20 := Tryd.lays156.v20
  t37 := Tryd.lays156.t37
  a37 := Tryd.lays156.a37
  z37 := Tryd.lays156.z37
  v37 := Tryd.lays156.v37
  t70 := Tryd.lays156.t70
  a70 := Tryd.lays156.a70
  z70 := Tryd.lays156.z70
  v70 := Tryd.lays156.v70
  t72 := Tryd.lays156.t72
  a72 := Tryd.lays156.a72
  z72 := Tryd.lays156.z72
  v72 := Tryd.lays156.v72
  t75 := Tryd.lays156.t75
  a75 := Tryd.lays156.a75
  z75 := Tryd.lays156.z75
  v75 := Tryd.lays156.v75
  t164 := Tryd.lays156.t164
  a164 := Tryd.lays156.a164
  z164 := Tryd.lays156.z164
  v164 := Tryd.lays156.v164
theorem WriteString_any (B b : Nat) (bs : List Value) (s : ByteArray) (w : World) (h : Lib.IsBuilderF 61 5 B b bs w) (hlen : bs.length + s.size ≤ 140737488355328) (hBw : B ≤ w.heap.size) :
    Calls Tryd.prog 44 #[.pointer (some ⟨b, 0, none⟩), .string s] w fun e w' => e = .returned (.tuple #[.int .i64 s.size, .nilIface]) ∧ (Lib.BuilderAtF 61 5 B b (.pointer (some ⟨b, 0, none⟩)) (bs ++ Lib.strCells s) w' ∧ Below B w w' ∧ Lib.OthersKept 5 (some b) w w') :=
  Any.Builder_WriteString_k ws166 Tryd.Builder_Extra_156 B b bs s w h hlen hBw
theorem bf_kept {T e : TypeId} {B b : Nat} {bs : List Value} {w w' : World} {row : Option Nat} (h : Lib.IsBuilderF T e B b bs w) (hg : w.grownBy w' row) (hb : some b ≠ row) (hr : ∀ g c fz, w.heap[g]? = some (.cells c e fz) → some g ≠ row) : Lib.IsBuilderF T e B b bs w' := by
  have key : ∀ p, Lib.BuilderAtF T e B b p bs w → Lib.BuilderAtF T e B b p bs w' := by
    rintro p ⟨h1, v, h2, h3, h4⟩
    refine ⟨h1, v, (hg.block b (lt_of_block h2) hb).trans h2, h3.kept hg ?_, h4⟩
    rcases h : v.ownBlock with _ | g
    · exact .inl rfl
    · refine .inr ?_
      obtain ⟨c, fz, hc⟩ := Lib.ownsRowF_kind h3 g h
      exact hr g c fz hc
  rcases h with h | h
  · exact .inl (key _ h)
  · exact .inr (key _ h)
theorem below_grown {w w' : World} (h : Below w.heap.size w w') : w.grownBy w' none := ⟨h.os, h.tape, h.output, h.size, fun k hk _ => h.block k hk⟩
theorem bf_below {T e : TypeId} {B b : Nat} {bs : List Value} {w w' : World} (h : Lib.IsBuilderF T e B b bs w) (hb : Below w.heap.size w w') : Lib.IsBuilderF T e B b bs w' :=
  bf_kept h (below_grown hb) (by simp) (by simp)

/-! ### bare -/
set_option maxHeartbeats 2000000 in
set_option maxRecDepth 100000 in
theorem bare_any (s : ByteArray) (hs : s.size ≤ 2147483647) (w : World) :
    Calls Tryd.prog 42 #[.string s] w fun e w' => e = .returned (.bool (bareL s.data.toList)) ∧ Below w.heap.size w w' := by
  by_cases h0 : s.data.toList = []
  · have hb : bareL s.data.toList = false := by rw [h0]; rfl
    have q1 := seq_lit h0
    have q2 : s.toList.isEmpty = true := by rw [ByteArray.toList_eq, h0]; rfl
    rw [hb]
    clear hb h0
    go_enter Tryd.func42, Tryd.ntmps42
    go_wp2_with fail
    go_ret
    exact ⟨rfl, Below.refl _ _⟩
  · have q1 := seq_nlit h0
    have q2 : s.toList.isEmpty = false := by
      rw [ByteArray.toList_eq]
      cases hc : s.data.toList with
      | nil => exact absurd hc h0
      | cons => rfl
    have hn : 0 < s.size := by
      have := toList_len s
      rcases Nat.eq_zero_or_pos s.size with h | h
      · exact absurd (List.eq_nil_of_length_eq_zero (by omega)) h0
      · exact h
    obtain ⟨c, hc, hck, hc0, hc1⟩ := byteAt s 0 hn
    have hck' := hck hn
    have Hhd : Hid (s.data.toList.head? = some c) := Lib.hid (by rw [List.head?_eq_getElem?]; exact hc)
    have Hne : Hid (s.data.toList.isEmpty = false) := Lib.hid (by
      cases hc : s.data.toList with
      | nil => exact absurd hc h0
      | cons => rfl)
    obtain ⟨T, hT⟩ : ∃ T : ByteArray, T = B (tri s.data.toList) := ⟨_, rfl⟩
    have HT : Hid (Calls Tryd.prog 73 #[.string s, .string ⟨#[32, 9]⟩] w fun e w' => e = .returned (.string T) ∧ Below w.heap.size w w') := Lib.hid (by rw [hT]; exact Trim_any s (by omega) w)
    have HTl : Hid (T.data.toList = tri s.data.toList) := Lib.hid (by rw [hT])
    clear h0 hc hT
    cases hp : prn s.data.toList with
    | false =>
      have Hb : Hid (bareL s.data.toList = false) := Lib.hid (by unfold bareL; rw [hp]; simp)
      have Hp := Lib.hid hp
      clear hp
      go_enter Tryd.func42, Tryd.ntmps42
      go_wp2_with fail
      refine (printable_any s hs _).mono ?_
      rintro e w1 ⟨rfl, rfl⟩
      rw [Hp.out]
      go_wp2_with fail
      go_ret
      rw [Hb.out]
      exact ⟨rfl, Below.refl _ _⟩
    | true =>
      have Hp := Lib.hid hp
      clear hp
      by_cases h34 : c.toNat = 34
      · have Hb : Hid (bareL s.data.toList = false) := Lib.hid (by
          have e : c = 34 := UInt8.toNat_inj.1 (by rw [h34]; rfl)
          unfold bareL
          rw [Hhd.out, e]
          simp)
        have q3 : ((c.toNat : Int) != 34) = false := by rw [h34]; rfl
        have q4 : ((c.toNat : Int) == 34) = true := by rw [h34]; rfl
        clear h34
        go_enter Tryd.func42, Tryd.ntmps42
        go_wp2_with fail
        refine (printable_any s hs _).mono ?_
        rintro e w1 ⟨rfl, rfl⟩
        rw [Hp.out]
        go_wp2_with fail
        go_ret
        rw [Hb.out]
        exact ⟨rfl, Below.refl _ _⟩
      · have q3 : ((c.toNat : Int) != 34) = true := by simp; omega
        have q4 : ((c.toNat : Int) == 34) = false := by simp; omega
        have Hn34 : Hid (c ≠ 34) := Lib.hid (by rintro rfl; exact h34 rfl)
        clear h34
        by_cases ht : tri s.data.toList = s.data.toList
        · have q5 : (T.toList == s.toList) = true := seq_true (ba_inj (HTl.out.trans ht))
          have Hb : Hid (bareL s.data.toList = true) := Lib.hid (by
            unfold bareL
            rw [Hne.out, Hp.out, Hhd.out]
            simp [Hn34.out, ht])
          clear ht
          go_enter Tryd.func42, Tryd.ntmps42
          go_wp2_with fail
          refine (printable_any s hs _).mono ?_
          rintro e w1 ⟨rfl, rfl⟩
          rw [Hp.out]
          go_wp2_with fail
          refine HT.out.mono ?_
          rintro e w2 ⟨rfl, hb⟩
          have Hbb := Lib.hid hb
          clear hb
          go_wp2_with fail
          go_ret
          rw [Hb.out]
          exact ⟨rfl, Hbb.out⟩
        · have q5 : (T.toList == s.toList) = false := seq_false (by
            rintro rfl
            exact ht HTl.out.symm)
          have Hb : Hid (bareL s.data.toList = false) := Lib.hid (by
            unfold bareL
            simp [ht])
          clear ht
          go_enter Tryd.func42, Tryd.ntmps42
          go_wp2_with fail
          refine (printable_any s hs _).mono ?_
          rintro e w1 ⟨rfl, rfl⟩
          rw [Hp.out]
          go_wp2_with fail
          refine HT.out.mono ?_
          rintro e w2 ⟨rfl, hb⟩
          have Hbb := Lib.hid hb
          clear hb
          go_wp2_with fail
          go_ret
          rw [Hb.out]
          exact ⟨rfl, Hbb.out⟩
end Go.Proofs.YtkbamhecbfocbaaDoor.ini
