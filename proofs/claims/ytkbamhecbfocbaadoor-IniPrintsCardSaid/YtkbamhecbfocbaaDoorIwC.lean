/- tinderboxlaw06.same compares lists of lines; apart returns true: lists of lines in blocks of their own, apart from each other. Conditions: the lists' lengths are in Go's bounds; they lie in rows. -/
import Derived.Test.YtkbamhecbfocbaaDoorIwB
import Derived.Deep.RegionHeld3
import Derived.BigQuiet
import Derived.Deep.QuietTactic
import Derived.ArgAppend
namespace Go.Proofs.YtkbamhecbfocbaaDoor.ini
open Go.ChangeShapes Go.WideShapes Go.ChangeAt Go.RowKit gl

theorem ln_same (x y : Ln) (h : x = y) : (!(((B x.name).toList == (B y.name).toList) && (((B x.text).toList == (B y.text).toList) && (x.num == y.num)))) = false := by
  subst h
  simp
set_option maxHeartbeats 2000000 in
set_option maxRecDepth 100000 in
theorem same_any (p p' : Option Addr) (m m' c c' : Nat) (l l' : List Ln) (hl : m ≤ 4294967295) (hl' : m' ≤ 4294967295) (w : World) (h : Lns w (.slice p m c) l) (h' : Lns w (.slice p' m' c') l') :
    Calls Tryd.prog 18 #[.slice p m c, .slice p' m' c'] w fun e w' => ∃ r : Bool, e = .returned (.bool r) ∧ (l = l' → r = true) ∧ ∃ q, w' = w.drewN q := by
  obtain ⟨hlen, hmc, hptr⟩ := h.ptr
  obtain ⟨hlen', hmc', hptr'⟩ := h'.ptr
  have HS := Lib.hid h
  have HS' := Lib.hid h'
  have Hlen := Lib.hid hlen
  have Hlen' := Lib.hid hlen'
  have Hptr := Lib.hid hptr
  have Hptr' := Lib.hid hptr'
  clear h h' hlen hlen' hptr hptr'
  by_cases hmm : m = m'
  · subst hmm
    go_enter Tryd.func18, Tryd.ntmps18
    go_wp2_with fail
    go_loopw [5] (fun i wr => ∃ j q : Nat, j ≤ m ∧ i = .int .i64 j ∧ wr = w.drewN q) (fun i _ => m - (intOf i).toNat)
    case atStart => exact ⟨0, 0, by omega, rfl, rfl⟩
    case round =>
      obtain ⟨j, q, hj, rfl, rfl⟩ := hrel
      by_cases hlt : j < m
      · obtain ⟨b, o, rfl, hbl⟩ := Hptr.out (by omega)
        obtain ⟨b', o', rfl, hbl'⟩ := Hptr'.out (by omega)
        obtain ⟨x, hx⟩ : ∃ x, l[j]? = some x := ⟨_, List.getElem?_eq_getElem (by rw [Hlen.out]; exact hlt)⟩
        obtain ⟨y, hy⟩ : ∃ y, l'[j]? = some y := ⟨_, List.getElem?_eq_getElem (by rw [Hlen'.out]; exact hlt)⟩
        obtain ⟨c0, c1, c2⟩ := HS.out.cells hx
        obtain ⟨d0, d1, d2⟩ := HS'.out.cells hy
        have hne := neq_ln (B x.name) (B x.text) (B y.name) (B y.text) x.num y.num
        have Hs : Hid (l = l' → (!(((B x.name).toList == (B y.name).toList) && (((B x.text).toList == (B y.text).toList) && (x.num == y.num)))) = false) := Lib.hid fun e => ln_same x y (by rw [e, hy] at hx; exact (Option.some.inj hx).symm)
        clear hx hy
        generalize (!(((B x.name).toList == (B y.name).toList) && (((B x.text).toList == (B y.text).toList) && (x.num == y.num)))) = t at *
        generalize B x.name = n1 at *
        generalize B y.name = n2 at *
        generalize B x.text = x1 at *
        generalize B y.text = x2 at *
        generalize x.num = u1 at *
        generalize y.num = u2 at *
        replace c0 : (w.drewN q).cell? ⟨b, o + j * 3, none⟩ = some (.string n1) := c0
        replace c1 : (w.drewN q).cell? ⟨b, o + j * 3 + 1, none⟩ = some (.string x1) := c1
        replace c2 : (w.drewN q).cell? ⟨b, o + j * 3 + 2, none⟩ = some (.int .i64 u1) := c2
        replace d0 : (w.drewN q).cell? ⟨b', o' + j * 3, none⟩ = some (.string n2) := d0
        replace d1 : (w.drewN q).cell? ⟨b', o' + j * 3 + 1, none⟩ = some (.string x2) := d1
        replace d2 : (w.drewN q).cell? ⟨b', o' + j * 3 + 2, none⟩ = some (.int .i64 u2) := d2
        generalize hq : w.drewN q = wr at *
        have Hq := Lib.hid hq
        clear hq
        cases t with
        | false =>
          go_wp2_with fail
          go_quiet (fail)
          go_wp2_with fail
          go_roundw
          case rel => exact ⟨j + 1, _, by omega, by go_num, by rw [← Hq.out, World.drewN_drewN]⟩
          case measure => simp [intOf]; omega
        | true =>
          go_wp2_with fail
          go_quiet (fail)
          go_wp2_with fail
          go_ret
          exact ⟨false, rfl, fun e => absurd (Hs.out e) (by simp), _, by rw [← Hq.out, World.drewN_drewN]⟩
      · obtain rfl : j = m := by omega
        go_wp2_with fail
        go_ret
        exact ⟨true, rfl, fun _ => rfl, q, rfl⟩
  · have hmm' : ((m : Int) != (m' : Int)) = true := by simp; omega
    have hne : l ≠ l' := by rintro rfl; exact hmm (by rw [← Hlen.out, ← Hlen'.out])
    have Hne := Lib.hid hne
    clear hmm hne
    go_enter Tryd.func18, Tryd.ntmps18
    go_wp2_with fail
    go_ret
    exact ⟨false, rfl, fun e => absurd e Hne.out, 0, rfl⟩
end Go.Proofs.YtkbamhecbfocbaaDoor.ini
