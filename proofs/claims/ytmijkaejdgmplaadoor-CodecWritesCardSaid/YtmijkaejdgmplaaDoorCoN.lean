/- codec.next reads a row. No conditions beside the text's size. -/
import Derived.Test.YtmijkaejdgmplaaDoorCoX
import Derived.Laws.BitsAllLaws
import Derived.Laws.BitsLemmas
namespace Go.Proofs.YtmijkaejdgmplaaDoor.co
open Go.ChangeShapes Go.WideShapes Go.ChangeAt Go.RowKit

theorem ofInt_i64 (a : Nat) (ha : a < 9223372036854775808) : (BitVec.ofInt 64 (a : Int)).toNat = a := by
  rw [BitVec.ofInt_natCast, BitVec.toNat_ofNat]; exact Nat.mod_eq_of_lt (by omega)
theorem i64_or_nat (a b : Nat) (ha : a < 9223372036854775808) (hb : b < 9223372036854775808) : bits .or .i64 (a : Int) (b : Int) = ((a ||| b : Nat) : Int) := by
  have hx : a ||| b < 2 ^ 63 := Nat.or_lt_two_pow (by omega) (by omega)
  show IntKind.i64.wrap ((BitVec.ofInt 64 (a : Int) ||| BitVec.ofInt 64 (b : Int)).toNat : Int) = _
  rw [BitVec.toNat_or, ofInt_i64 a ha, ofInt_i64 b hb, IntKind.wrap_i64]
  omega


theorem pow128 (k : Nat) (h : k < 9) : 128 ^ k ≤ 72057594037927936 := by
  have := Nat.pow_le_pow_right (show 0 < 128 by omega) (show k ≤ 8 by omega)
  omega
theorem or_step (m b k : Nat) (hk : k < 9) (hm : m < 128 ^ k) : bits BinOp.or IntKind.i64 (m : Int) (wrap64 ((b : Int) % 128 * 2 ^ (7 * k))) = ((m + b % 128 * 128 ^ k : Nat) : Int) := by
  have hp := pow128 k hk
  have hp2 : (2 : Nat) ^ (7 * k) = 128 ^ k := by rw [Nat.pow_mul]
  have hlt : b % 128 * 128 ^ k < 9223372036854775808 := by
    have : b % 128 * 128 ^ k ≤ 127 * 72057594037927936 := Nat.mul_le_mul (by omega) hp
    omega
  have he : ((b : Int) % 128 * 2 ^ (7 * k)) = ((b % 128 * 128 ^ k : Nat) : Int) := by
    rw [← hp2]
    simp
  rw [he, IntWalk.wrap64_in _ ⟨by omega, by omega⟩, i64_or_nat _ _ (by omega) hlt]
  have h1 : b % 128 * 128 ^ k = (b % 128) <<< (7 * k) := by rw [Nat.shiftLeft_eq, hp2]
  rw [h1, Nat.or_comm, ← Nat.shiftLeft_add_eq_or_of_lt (by rw [hp2]; exact hm), Nat.add_comm]
theorem pow_next (m b k : Nat) (hm : m < 128 ^ k) : m + b % 128 * 128 ^ k < 128 ^ (k + 1) := by
  have : b % 128 * 128 ^ k ≤ 127 * 128 ^ k := Nat.mul_le_mul_right _ (by omega)
  rw [Nat.pow_succ]
  omega
theorem drop_at {l : List UInt8} {k : Nat} {b : UInt8} (h : l[k]? = some b) : l.drop k = b :: l.drop (k + 1) := by
  obtain ⟨hk, rfl⟩ := List.getElem?_eq_some_iff.1 h
  exact List.drop_eq_getElem_cons hk
theorem nxt_high {l : List UInt8} {k m : Nat} {b : UInt8} (hk : k < 9) (h : l[k]? = some b) (hb : 128 ≤ b.toNat) : nxt (9 - k) k m (l.drop k) = nxt (9 - (k + 1)) (k + 1) (m + b.toNat % 128 * 128 ^ k) (l.drop (k + 1)) := by
  rw [drop_at h, show 9 - k = (9 - (k + 1)) + 1 by omega, nxt, if_pos hb]
theorem nxt_bad {l : List UInt8} {k m : Nat} {b : UInt8} (hk : k < 9) (h : l[k]? = some b) (hb : b.toNat < 128) (hz : (0 < k ∧ b.toNat = 0) ∨ m + b.toNat % 128 * 128 ^ k > 4611686018427387904) : nxt (9 - k) k m (l.drop k) = (0, 0, 30) := by
  rw [drop_at h, show 9 - k = (9 - (k + 1)) + 1 by omega, nxt, if_neg (by omega), if_pos hz]
theorem nxt_good {l : List UInt8} {k m : Nat} {b : UInt8} (hk : k < 9) (h : l[k]? = some b) (hb : b.toNat < 128) (hz : ¬ ((0 < k ∧ b.toNat = 0) ∨ m + b.toNat % 128 * 128 ^ k > 4611686018427387904)) : nxt (9 - k) k m (l.drop k) = (m + b.toNat % 128 * 128 ^ k, k + 1, 0) := by
  rw [drop_at h, show 9 - k = (9 - (k + 1)) + 1 by omega, nxt, if_neg (by omega), if_neg hz]
theorem nxt_end {l : List UInt8} {k m : Nat} (hk : k < 9) (h : l.length = k) : nxt (9 - k) k m (l.drop k) = (0, 0, 32) := by
  rw [List.drop_of_length_le (by omega), show 9 - k = (9 - (k + 1)) + 1 by omega, nxt]
theorem nxt_many {l : List UInt8} {m : Nat} : nxt (9 - 9) 9 m l = (0, 0, 30) := rfl
theorem ErrAt.isNil {w : World} {S : List Nat} {v : Value} {e : Int} (h : ErrAt w S v e) (h0 : e = 0) : v = .nilIface := by
  rcases h with ⟨_, h⟩ | ⟨h, _⟩
  · exact h
  · exact absurd h0 h
theorem ErrAt.isSome {w : World} {S : List Nat} {v : Value} {e : Int} (h : ErrAt w S v e) (h0 : e ≠ 0) : ∃ p, v = .iface 77 (.pointer (some ⟨p, 0, none⟩)) ∧ w.heap[p]? = some (.cells #[.int .i64 e] 79 (0, 0)) := by
  rcases h with ⟨h, _⟩ | ⟨_, p, h1, h2, _⟩
  · exact absurd h h0
  · exact ⟨p, h1, h2⟩
def Read (w w' : World) (ev : Value) (e : Int) : Prop := Below w.heap.size w w' ∧ ∃ S, ErrAt w' S ev e ∧ ∀ k ∈ S, w.heap.size ≤ k ∧ k < w'.heap.size
theorem read_fault (w : World) (e : Int) (he : e ≠ 0) : Read w (w.alloc (.cells #[.int .i64 e] 79)) (.iface 77 (.pointer (some ⟨w.heap.size, 0, none⟩))) e :=
  ⟨(Below.refl _ _).alloc (Nat.le_refl _) _, [w.heap.size], .inr ⟨he, _, rfl, heap_alloc_new w _, by simp⟩, by simp⟩
theorem read_ok (w : World) : Read w w .nilIface 0 := ⟨Below.refl _ _, [], .inl ⟨rfl, rfl⟩, by simp⟩

set_option maxHeartbeats 4000000 in
set_option maxRecDepth 100000 in
theorem next_any (s : ByteArray) (hs : s.size ≤ 9223372036854775807) (w : World) :
    Calls Tryd.prog 54 #[.string s] w fun e w' => ∃ ev, e = .returned (.tuple #[.int .i64 ((nxt 9 0 0 s.data.toList).1 : Nat), .int .i64 ((nxt 9 0 0 s.data.toList).2.1 : Nat), ev]) ∧ Read w w' ev (nxt 9 0 0 s.data.toList).2.2 := by
  go_enter Tryd.func54, Tryd.ntmps54
  go_wp2_with fail
  go_loop [5, 7] (fun n i => ∃ k m : Nat, k ≤ 9 ∧ k ≤ s.size ∧ i = .int .i64 (k : Int) ∧ n = .int .i64 (m : Int) ∧ m < 128 ^ k ∧ Hid (nxt 9 0 0 s.data.toList = nxt (9 - k) k m (s.data.toList.drop k))) (fun _ i => (9 - intOf i).toNat)
  case atStart => exact ⟨0, 0, by omega, by omega, rfl, rfl, by decide, Lib.hid rfl⟩
  case round =>
    obtain ⟨k, m, hk, hks, rfl, rfl, hm, Hn⟩ := hrel
    by_cases h9 : k < 9
    · by_cases hlt : k < s.size
      · obtain ⟨b, hbl, hbk, hb0, hb1⟩ := byteAt s k hlt
        have Hbl := Lib.hid hbl
        have hor := or_step m b.toNat k h9 hm
        have Hm := Lib.hid hm
        have Hp := Lib.hid (pow_next m b.toNat k hm)
        clear hbl hm
        have hbk' := hbk hlt
        generalize hx : m + b.toNat % 128 * 128 ^ k = x at *
        have Hx := Lib.hid hx
        clear hx
        by_cases hhigh : (128 : Int) ≤ (b.toNat : Int)
        · go_wp2_with fail
          go_round
          case rel => exact ⟨k + 1, x, by omega, by omega, by go_num, by go_num, Hp.out, Lib.hid (by rw [Hn.out, nxt_high h9 Hbl.out (by omega), Hx.out])⟩
          case measure => simp [intOf]; omega
        · have hlow : b.toNat < 128 := by omega
          have hlow' : (b.toNat : Int) ≤ 127 := by omega
          by_cases hz : (0 < k ∧ b.toNat = 0) ∨ x > 4611686018427387904
          · have HV : Hid (nxt 9 0 0 s.data.toList = (0, 0, 30)) := Lib.hid (by rw [Hn.out, nxt_bad h9 Hbl.out hlow (by rw [Hx.out]; exact hz)])
            rcases (show (((0 : Int) < (k : Int)) ∧ ((b.toNat : Int) == 0) = true) ∨ (((0 : Int) < (k : Int)) ∧ ((b.toNat : Int) == 0) = false ∧ (4611686018427387904 : Int) < (x : Int)) ∨ (k = 0 ∧ (4611686018427387904 : Int) < (x : Int)) from by
              rcases Nat.eq_zero_or_pos k with h0 | h0
              · rcases hz with h | h
                · omega
                · exact .inr (.inr ⟨h0, by omega⟩)
              · by_cases hb : b.toNat = 0
                · exact .inl ⟨by omega, by rw [hb]; rfl⟩
                · exact .inr (.inl ⟨by omega, by simp only [beq_eq_false_iff_ne]; omega, by rcases hz with h | h <;> omega⟩)) with ⟨e1, e2⟩ | ⟨e1, e2, e3⟩ | ⟨e1, e3⟩
            · clear hz
              go_wp2_with fail
              go_ret3
              rw [HV.out]
              exact ⟨_, rfl, read_fault w 30 (by decide)⟩
            · clear hz
              go_wp2_with fail
              go_ret3
              rw [HV.out]
              exact ⟨_, rfl, read_fault w 30 (by decide)⟩
            · clear hz
              have e0 : ¬ ((0 : Int) < (k : Int)) := by omega
              have e0' : decide ((0 : Int) < (k : Int)) = false := by simpa using e0
              clear e1
              go_wp2_with fail
              go_ret3
              rw [HV.out]
              exact ⟨_, rfl, read_fault w 30 (by decide)⟩
          · have HV : Hid (nxt 9 0 0 s.data.toList = (x, k + 1, 0)) := Lib.hid (by rw [Hn.out, nxt_good h9 Hbl.out hlow (by rw [Hx.out]; exact hz), Hx.out])
            have hmax : ¬ ((4611686018427387904 : Int) < (x : Int)) := fun h => hz (.inr (by omega))
            have hmax' : (x : Int) ≤ 4611686018427387904 := by omega
            by_cases hk0 : 0 < k
            · have e1 : (0 : Int) < (k : Int) := by omega
              have e2 : ((b.toNat : Int) == 0) = false := by
                have : ¬ b.toNat = 0 := fun h => hz (.inl ⟨hk0, h⟩)
                simp only [beq_eq_false_iff_ne]; omega
              clear hz
              go_wp2_with fail
              go_ret3
              rw [HV.out]
              exact ⟨_, rfl, read_ok w⟩
            · have e0 : ¬ ((0 : Int) < (k : Int)) := by omega
              have e0' : decide ((0 : Int) < (k : Int)) = false := by simpa using e0
              clear hz
              go_wp2_with fail
              go_ret3
              rw [HV.out]
              exact ⟨_, rfl, read_ok w⟩
      · obtain rfl : k = s.size := by omega
        have HV : Hid (nxt 9 0 0 s.data.toList = (0, 0, 32)) := Lib.hid (by rw [Hn.out, nxt_end h9 (by simp)])
        go_wp2_with fail
        go_ret3
        rw [HV.out]
        exact ⟨_, rfl, read_fault w 32 (by decide)⟩
    · obtain rfl : k = 9 := by omega
      have HV : Hid (nxt 9 0 0 s.data.toList = (0, 0, 30)) := Lib.hid (by rw [Hn.out, nxt_many])
      rw [show ((9 : Nat) : Int) = 9 from rfl]
      go_wp2_with fail
      go_ret3
      rw [HV.out]
      exact ⟨_, rfl, read_fault w 30 (by decide)⟩
end Go.Proofs.YtmijkaejdgmplaaDoor.co
