/- tinderboxlaw03.size weighs a script. Conditions: the script lies in memory as its list. -/
import Derived.Test.YtmijkaejdgmplaaDoorCoK
namespace Go.Proofs.YtmijkaejdgmplaaDoor.co
open Go.ChangeShapes Go.WideShapes Go.ChangeAt Go.RowKit

/-- A call at place i of a script. -/
structure OpAt (w : World) (b off : Nat) (o : OpD) : Prop where
  lt : b < w.heap.size
  c0 : w.cell? ⟨b, off, none⟩ = some (.int .i64 o.kind)
  c1 : w.cell? ⟨b, off + 1, none⟩ = some (.int .i64 o.on)
  c2 : w.cell? ⟨b, off + 2, none⟩ = some (.int .i64 o.n)
  c3 : w.cell? ⟨b, off + 3, none⟩ = some (.string o.s)
structure OpD.ok (o : OpD) : Prop where
  on1 : -9223372036854775808 ≤ o.on
  on2 : o.on ≤ 9223372036854775807
  n2 : o.n.toNat ≤ 9223372036854775807
  s : o.s.size ≤ 9223372036854775807
def Script (w : World) (p : Option Addr) (l : List OpD) : Prop := ∀ i o, l[i]? = some o → o.ok ∧ ∃ b off, p = some ⟨b, off, none⟩ ∧ OpAt w b (off + i * 4) o
theorem Script.below {w w' : World} {p : Option Addr} {l : List OpD} (h : Script w p l) (hb : Below w.heap.size w w') : Script w' p l := by
  intro i o hi
  obtain ⟨h0, b, off, h1, h2⟩ := h i o hi
  exact ⟨h0, b, off, h1, Nat.lt_of_lt_of_le h2.lt hb.size, (hb.cell h2.lt).trans h2.c0, (hb.cell h2.lt).trans h2.c1, (hb.cell h2.lt).trans h2.c2, (hb.cell h2.lt).trans h2.c3⟩

def sizeV : List OpD → Int → Int
  | [], n => n
  | o :: r, n => if n ≤ 2147483647 then sizeV r (addV (addV n 100) (o.s.size : Nat)) else n
def wt (l : List OpD) : Nat := (l.map fun o => 100 + o.s.size).sum
theorem sizeV_wt : ∀ (l : List OpD) (n : Nat), sizeV l n ≤ 2147483647 → n + wt l ≤ 2147483647
  | [], n, h => by simp only [sizeV] at h; simp only [wt, List.map_nil, List.sum_nil]; omega
  | o :: r, n, h => by
    simp only [sizeV] at h
    split at h
    · have e : wt (o :: r) = (100 + o.s.size) + wt r := by simp [wt]
      by_cases h1 : addV (addV n 100) (o.s.size : Nat) = ((n + 100 + o.s.size : Nat) : Int)
      · rw [h1] at h
        have := sizeV_wt r _ h
        omega
      · have hb : addV (addV n 100) (o.s.size : Nat) = 2147483648 := by
          unfold addV at h1 ⊢
          by_cases h2 : (100 : Int) > 2147483647 - (n : Int)
          · rw [if_pos h2, if_pos (by omega)]
          · rw [if_neg h2] at h1 ⊢
            by_cases h3 : (o.s.size : Int) > 2147483647 - ((n : Int) + 100)
            · rw [if_pos h3]
            · rw [if_neg h3] at h1; omega
        rw [hb] at h
        cases r with
        | nil => simp only [sizeV] at h; omega
        | cons o' r' =>
          simp only [sizeV] at h
          rw [if_neg (by omega)] at h
          omega
    · omega
theorem add_any' (n m : Int) (hn : 0 ≤ n) (hn2 : n ≤ 9223372036854775807) (hm : 0 ≤ m) (hm2 : m ≤ 9223372036854775807) (w : World) :
    Calls Tryd.prog 18 #[.int .i64 n, .int .i64 m] w fun e w' => e = .returned (.int .i64 (addV n m)) ∧ w' = w := (add_any n m hn hn2 hm hm2 w).mono fun _ _ ⟨h1, h2⟩ => ⟨h1, h2.symm⟩
theorem drop_cons {α : Type} {l : List α} {k : Nat} {b : α} (h : l[k]? = some b) : l.drop k = b :: l.drop (k + 1) := by
  obtain ⟨hk, rfl⟩ := List.getElem?_eq_some_iff.1 h
  exact List.drop_eq_getElem_cons hk

set_option maxHeartbeats 2000000 in
set_option maxRecDepth 100000 in
theorem size_any (p : Option Addr) (cap : Nat) (l : List OpD) (w : World) (hl : l.length ≤ 9223372036854775807) (h : Script w p l) :
    Calls Tryd.prog 11 #[.slice p l.length cap] w fun e w' => e = .returned (.int .i64 (sizeV l 0)) ∧ Below w.heap.size w w' := by
  have H := Lib.hid h
  clear h
  go_enter Tryd.func11, Tryd.ntmps11
  go_wp2_with fail
  go_loopw [3, 4] (fun n i wr => ∃ (k : Nat) (m : Int), k ≤ l.length ∧ i = .int .i64 (k : Int) ∧ n = .int .i64 m ∧ 0 ≤ m ∧ m ≤ 2147483648 ∧ Hid (sizeV l 0 = sizeV (l.drop k) m) ∧ Hid (Below w.heap.size w wr)) (fun _ i _ => (l.length - intOf i).toNat)
  case atStart => exact ⟨0, 0, by omega, rfl, rfl, by omega, by omega, Lib.hid rfl, Lib.hid (Below.refl _ _)⟩
  case round =>
    obtain ⟨k, m, hk, rfl, rfl, hm0, hm1, Hv, Hb⟩ := hrel
    by_cases hlt : k < l.length
    · have hlt' : (k : Int) < (l.length : Int) := by omega
      by_cases hmm : m ≤ 2147483647
      · obtain ⟨hok, b, off, rfl, hat⟩ := H.out k l[k] (List.getElem?_eq_getElem hlt)
        have Hget : Hid (l[k]? = some l[k]) := Lib.hid (List.getElem?_eq_getElem hlt)
        generalize l[k] = o at *
        have hs1 := hok.s
        have hs2 : (0 : Int) ≤ (o.s.size : Int) := by omega
        have hc3 : wr.cell? ⟨b, off + k * 4 + 3, none⟩ = some (.string o.s) := (Hb.out.cell (p := ⟨b, off + k * 4 + 3, none⟩) hat.lt).trans hat.c3
        have hbd := addV_bd m 100 hm0 (by omega)
        have hbd2 := addV_bd (addV m 100) (o.s.size : Int) hbd.1 hs2
        have Hnext : Hid (sizeV l 0 = sizeV (l.drop (k + 1)) (addV (addV m 100) (o.s.size : Int))) := Lib.hid (by
          rw [Hv.out, drop_cons Hget.out, sizeV, if_pos hmm])
        obtain ⟨hb1, hb2⟩ := hbd
        obtain ⟨hb3, hb4⟩ := hbd2
        clear hok hat
        go_wp2_with fail
        go_quiet ((go_at_call 18; exact Calls.quiet_of_same (add_any' _ _ (by omega) (by omega) (by omega) (by omega) _)))
        go_wp2_with fail
        go_roundw
        case rel => exact ⟨k + 1, addV (addV m 100) (o.s.size : Int), by omega, by go_num, rfl, hb3, hb4, Hnext, Lib.hid ⟨Hb.out.os, Hb.out.tape, Hb.out.output, Hb.out.size, Hb.out.block⟩⟩
        case measure => simp [intOf]; omega
      · have hmm' : (2147483647 : Int) < m := by omega
        have HV : Hid (sizeV l 0 = m) := Lib.hid (by
          rw [Hv.out, drop_cons (List.getElem?_eq_getElem hlt), sizeV, if_neg hmm])
        go_wp2_with fail
        go_ret
        exact ⟨ret_int' HV.out, Hb.out⟩
    · have hlt' : ¬ ((k : Int) < (l.length : Int)) := by omega
      have HV : Hid (sizeV l 0 = m) := Lib.hid (by
          rw [Hv.out, List.drop_of_length_le (by omega)]; rfl)
      have hd : decide ((k : Int) < (l.length : Int)) = false := by simpa using hlt'
      go_wp2_with fail
      go_ret
      exact ⟨ret_int' HV.out, Hb.out⟩
end Go.Proofs.YtmijkaejdgmplaaDoor.co
