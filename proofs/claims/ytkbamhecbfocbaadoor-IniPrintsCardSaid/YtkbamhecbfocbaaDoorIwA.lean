/- tinderboxlaw06's add, pick, weight and same return plain functions. Conditions: the numbers and lengths are in Go's bounds. -/
import Derived.Test.YtkbamhecbfocbaaDoorInE
import Derived.Test.YtkbamhecbfocbaaDoorInV
import Derived.Test.YtkbamhecbfocbaaDoorNeq
import Derived.BigQuiet
import Derived.Deep.QuietTactic
namespace Go.Proofs.YtkbamhecbfocbaaDoor.ini
open Go.ChangeShapes Go.WideShapes Go.ChangeAt Go.RowKit gl

theorem pick_any (c n : Int) (hn : 0 < n) (hn2 : n ≤ 2147483647) (h1 : -9223372036854775808 ≤ c) (h2 : c ≤ 9223372036854775807) (w : World) :
    Calls Tryd.prog 16 #[.int .i64 c, .int .i64 n] w fun e w' => e = .returned (.int .i64 (pickV c n)) ∧ w' = w := by
  by_cases h : c < 0
  · go_enter Tryd.func16, Tryd.ntmps16
    go_wp2_with fail
    go_ret
    exact ⟨ret_int' (by unfold pickV; rw [if_pos h, ← Int.neg_tmod, Int.tmod_eq_emod_of_nonneg (by omega)]), rfl⟩
  · go_enter Tryd.func16, Tryd.ntmps16
    go_wp2_with fail
    go_ret
    exact ⟨ret_int' (by unfold pickV; rw [if_neg (by omega)]), rfl⟩
theorem add_any (n m : Int) (hn : 0 ≤ n) (hn2 : n ≤ 9223372036854775807) (hm : 0 ≤ m) (hm2 : m ≤ 9223372036854775807) (w : World) :
    Calls Tryd.prog 11 #[.int .i64 n, .int .i64 m] w fun e w' => e = .returned (.int .i64 (addV n m)) ∧ w' = w := by
  by_cases h : 2147483647 - n < m
  · go_enter Tryd.func11, Tryd.ntmps11
    go_wp2_with fail
    go_ret
    exact ⟨ret_int' (by unfold addV; rw [if_pos h]), rfl⟩
  · go_enter Tryd.func11, Tryd.ntmps11
    go_wp2_with fail
    go_ret
    exact ⟨ret_int' (by unfold addV; rw [if_neg (by omega)]), rfl⟩

theorem wt_go {x : Ln} {r : List Ln} {n : Int} (h : n ≤ 2147483647) : wtV (x :: r) n = wtV r (addV n (oneW x)) := by rw [wtV, if_pos h]
theorem wt_stop {l : List Ln} {n : Int} (h : ¬ n ≤ 2147483647) : wtV l n = n := by
  cases l with
  | nil => rfl
  | cons x r => rw [wtV, if_neg h]

set_option maxHeartbeats 1000000 in
set_option maxRecDepth 100000 in
theorem weight_any (p : Option Addr) (m c : Nat) (l : List Ln) (w : World) (hm : m ≤ 9223372036854775807) (hl : ∀ x ∈ l, x.name.length ≤ 9223372036854775807 ∧ x.text.length ≤ 9223372036854775807) (h : Lns w (.slice p m c) l) :
    Calls Tryd.prog 14 #[.slice p m c] w fun e w' => e = .returned (.int .i64 (wtV l 0)) ∧ ∃ q, w' = w.drewN q := by
  obtain ⟨hlen, hmc, hptr⟩ := h.ptr
  have H := Lib.hid h
  have Hl := Lib.hid hl
  have Hptr := Lib.hid hptr
  have Hlen := Lib.hid hlen
  clear h hl hptr hlen
  go_enter Tryd.func14, Tryd.ntmps14
  go_wp2_with fail
  go_loopw [3, 4] (fun n i wr => ∃ (k q : Nat) (s : Int), k ≤ m ∧ i = .int .i64 (k : Int) ∧ n = .int .i64 s ∧ 0 ≤ s ∧ s ≤ 2147483648 ∧ Hid (wtV l 0 = wtV (l.drop k) s) ∧ wr = w.drewN q) (fun _ i _ => m - (intOf i).toNat)
  case atStart => exact ⟨0, 0, 0, by omega, rfl, rfl, by omega, by omega, Lib.hid rfl, rfl⟩
  case round =>
    obtain ⟨k, q, s, hk, rfl, rfl, hs0, hs1, Hv, rfl⟩ := hrel
    by_cases hlt : k < m
    · by_cases hsb : s ≤ 2147483647
      · obtain ⟨b, o, rfl, hbl⟩ := Hptr.out (by omega)
        obtain ⟨x, hx⟩ : ∃ x, l[k]? = some x := ⟨_, List.getElem?_eq_getElem (by rw [Hlen.out]; exact hlt)⟩
        obtain ⟨c0, c1, _⟩ := H.out.cells hx
        obtain ⟨hn63, ht63⟩ := Hl.out x (List.mem_of_getElem? hx)
        have Hv2 : Hid (wtV l 0 = wtV (l.drop (k + 1)) (addV s (oneW x))) := Lib.hid (by rw [Hv.out, drop_get hx, wt_go hsb])
        have ob := oneW_bd x
        have ab := addV_bd s _ hs0 ob.1
        have b1 := addV_bd (x.name.length : Int) 10 (by omega) (by omega)
        have h3 : Hid (∀ W, Calls Tryd.prog 11 #[.int .i64 s, .int .i64 (oneW x)] W fun e w' => e = .returned (.int .i64 (addV s (oneW x))) ∧ ∃ d, w' = W.drewN d) := Lib.hid fun W => (add_any s (oneW x) hs0 (by omega) ob.1 (by omega) W).mono fun e w' h => ⟨h.1, 0, h.2⟩
        obtain ⟨a2, ha2⟩ : ∃ a2, a2 = 4 * min (x.text.length : Int) 2147483647 := ⟨_, rfl⟩
        have h2 : Hid (∀ W, Calls Tryd.prog 11 #[.int .i64 (addV x.name.length 10), .int .i64 a2] W fun e w' => e = .returned (.int .i64 (oneW x)) ∧ ∃ d, w' = W.drewN d) := Lib.hid fun W => by rw [ha2]; exact (add_any _ _ b1.1 (by omega) (by omega) (by omega) W).mono fun e w' h => ⟨h.1, 0, h.2⟩
        rw [← B_size x.text] at ha2
        have h1 : Hid (∀ W, Calls Tryd.prog 11 #[.int .i64 (x.name.length : Int), .int .i64 10] W fun e w' => e = .returned (.int .i64 (addV x.name.length 10)) ∧ ∃ d, w' = W.drewN d) := Lib.hid fun W => (add_any _ _ (by omega) (by omega) (by omega) (by omega) W).mono fun e w' h => ⟨h.1, 0, h.2⟩
        rw [← B_size x.text] at ht63
        rw [← B_size x.name] at hn63 h1 h2
        clear hx b1
        generalize addV ((B x.name).size : Int) 10 = a1 at *
        generalize oneW x = a3 at *
        generalize addV s a3 = a4 at *
        generalize B x.name = nm at *
        generalize B x.text = tx at *
        replace c0 : (w.drewN q).cell? ⟨b, o + k * 3, none⟩ = some (.string nm) := c0
        replace c1 : (w.drewN q).cell? ⟨b, o + k * 3 + 1, none⟩ = some (.string tx) := c1
        generalize hq : w.drewN q = wr at *
        have HQ := Lib.hid hq
        clear hq
        obtain ⟨mv, hmv⟩ : ∃ mv : Int, min (tx.size : Int) 2147483647 = mv := ⟨_, rfl⟩
        have hmv0 : 0 ≤ mv := by omega
        have hmv1 : mv ≤ 2147483647 := by omega
        obtain rfl : a2 = 4 * mv := by omega
        clear ha2
        go_wp2_with fail
        go_quiet (first | (go_at_call 11; with_reducible exact Calls.quiet_of (h1.out _)) | (go_at_call 11; with_reducible exact Calls.quiet_of (h2.out _)) | (go_at_call 11; with_reducible exact Calls.quiet_of (h3.out _)))
        go_wp2_with fail
        go_roundw
        case rel => exact ⟨k + 1, _, a4, by omega, by go_num, rfl, by omega, by omega, Hv2, by rw [← HQ.out, World.drewN_drewN]⟩
        case measure => simp [intOf]; omega
      · have Hr : Hid (wtV l 0 = s) := Lib.hid (by rw [Hv.out, wt_stop hsb])
        go_wp2_with fail
        go_ret
        rw [Hr.out]
        exact ⟨rfl, q, rfl⟩
    · obtain rfl : k = m := by omega
      have hr : Hid (wtV l 0 = s) := Lib.hid (by rw [Hv.out, List.drop_eq_nil_of_le (by rw [Hlen.out]; exact Nat.le_refl _)]; rfl)
      by_cases hsb : s ≤ 2147483647
      all_goals
        go_wp2_with fail
        go_ret
        rw [hr.out]
        exact ⟨rfl, q, rfl⟩
end Go.Proofs.YtkbamhecbfocbaaDoor.ini
