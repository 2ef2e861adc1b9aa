/- value.names, and Print at numbers with units, return plain functions. Conditions: the listed variables hold what the program's text lays; the value's words lie in memory; it is no greater than 2147483647 bytes and words. -/
import Derived.Test.YtpfhhaonfbfheaaGreatDoorVaL
import Derived.Deep.RegionHeld3
import Derived.Laws.Concat
namespace Go.Proofs.YtpfhhaonfbfheaaGreatDoor.va
open Go.ChangeShapes Go.WideShapes Go.ChangeAt Go.RowKit gl

abbrev nm (k : Int) (i : Nat) : ByteArray := B (uname k i)
/-- The greatest of the first units of which a number is a multiple. -/
def bt (k n : Int) : Nat → Nat
  | 0 => 0
  | i + 1 => if n ≠ 0 ∧ n % unit k (uname k i) = 0 then i else bt k n i
theorem bt_le (k n : Int) (i : Nat) : bt k n i ≤ i := by
  induction i with
  | zero => exact Nat.le_refl _
  | succ i ih => unfold bt; split <;> omega
theorem bt_best (k n : Int) : bt k n 4 = best k n := by
  unfold best
  by_cases h : n = 0
  · simp [bt, h]
  · rw [if_neg h]
    simp only [bt, h, ne_eq, not_false_eq_true, true_and]
    repeat' split
    all_goals rfl
theorem decDigits_len (u : Nat) : (Lib.decDigits u).length ≤ u + 1 := by
  induction u using Nat.strongRecOn with
  | _ u ih =>
    by_cases h : u < 10
    · rw [decDigits_lt h]; simp
    · rw [decDigits_ge h]
      have := ih (u / 10) (by omega)
      simp
      omega
theorem uname_len (k : Int) (i : Nat) : (uname k i).length ≤ 1 := by
  unfold uname
  repeat' split
  all_goals simp
theorem formatBool_eq (b : Bool) : (⟨(Lib.formatBool b).toArray⟩ : ByteArray) = B (if b then [116, 114, 117, 101] else [102, 97, 108, 115, 101]) := by cases b <;> decide +kernel

/-- What the loop over the units' names keeps. -/
def S16 (w0 : World) (b : Nat) (k n : Int) (w' : World) : Prop := w'.cell? ⟨b, 0, none⟩ = some (.int .i64 k) ∧ w'.cell? ⟨b, 1, none⟩ = some (.int .i64 n) ∧ Hid (Below w0.heap.size w0 w')
theorem s16_drew {w0 wp : World} {b : Nat} {k n : Int} (h : wp.cell? ⟨b, 0, none⟩ = some (.int .i64 k) ∧ wp.cell? ⟨b, 1, none⟩ = some (.int .i64 n) ∧ Hid (Below w0.heap.size w0 wp)) :
    wp.drew.cell? ⟨b, 0, none⟩ = some (.int .i64 k) ∧ wp.drew.cell? ⟨b, 1, none⟩ = some (.int .i64 n) ∧ Hid (Below w0.heap.size w0 wp.drew) := ⟨h.1, h.2.1, Lib.hid h.2.2.out.drew⟩
theorem s16_call {w0 wp w' : World} {b : Nat} {k n : Int} (h : wp.cell? ⟨b, 0, none⟩ = some (.int .i64 k) ∧ wp.cell? ⟨b, 1, none⟩ = some (.int .i64 n) ∧ Hid (Below w0.heap.size w0 wp)) (hb : Below wp.heap.size wp w') :
    w'.cell? ⟨b, 0, none⟩ = some (.int .i64 k) ∧ w'.cell? ⟨b, 1, none⟩ = some (.int .i64 n) ∧ Hid (Below w0.heap.size w0 w') :=
  have hlt := World.block_lt_of_cell? _ _ h.1
  ⟨(hb.cell (p := ⟨b, 0, none⟩) hlt).trans h.1, (hb.cell (p := ⟨b, 1, none⟩) hlt).trans h.2.1, Lib.hid (h.2.2.out.trans (hb.mono h.2.2.out.size))⟩
theorem s16_vlo {w0 wp : World} {b : Nat} {k n : Int} (hV : Vlo w0) (h : wp.cell? ⟨b, 0, none⟩ = some (.int .i64 k) ∧ wp.cell? ⟨b, 1, none⟩ = some (.int .i64 n) ∧ Hid (Below w0.heap.size w0 wp)) : Vlo wp := hV.below h.2.2.out (Nat.le_refl _)

theorem Itoa_any (n : Int) (h0 : -9223372036854775808 ≤ n) (h1 : n ≤ 9223372036854775807) (w : World) (hV : Vlo w) :
    Calls Tryz.prog 177 #[.int .i64 n] w fun e w' => e = .returned (.string (B (Lib.itoa n))) ∧ Below w.heap.size w w' :=
  (Tryz.strconv_Itoa n h0 h1 w hV.pow).mono fun _ _ ⟨he, k, os, hw⟩ => ⟨he, hw ▸ Lib.below_grow _ w (Nat.le_refl _) k os⟩

end Go.Proofs.YtpfhhaonfbfheaaGreatDoor.va
