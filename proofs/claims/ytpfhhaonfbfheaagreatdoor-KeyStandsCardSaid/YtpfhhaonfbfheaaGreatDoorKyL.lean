/- Package key: All. Conditions: the set lies in memory as its list. -/
import Derived.Test.YtpfhhaonfbfheaaGreatDoorKyF
import Derived.Test.YtpfhhaonfbfheaaGreatDoorSte
namespace Go.Proofs.YtpfhhaonfbfheaaGreatDoor.ky
open Go.ChangeShapes Go.WideShapes Go.ChangeAt Go.RowKit gl va ls

abbrev Kys (w : World) (v : Value) (l : List Ky) : Prop := rw.Rw kyC 6 w v l
abbrev NewKs (M : Nat) (w : World) (v : Value) (l : List Ky) : Prop := rw.NewRw kyC 6 62 M w v l
set_option maxRecDepth 100000 in
theorem clip_any (p : Option Addr) (n c : Nat) (hn : n ≤ c) (hc : n ≤ 4294967295) (w : World) : Calls Tryz.prog 61 #[.slice p n c] w fun e w' => e = .returned (.slice p n n) ∧ w = w' := by
  have h1 : (n : Int) ≤ (c : Int) := by omega
  have h2 : (0 : Int) ≤ (n : Int) := by omega
  go_enter Tryz.func61, Tryz.ntmps61
  go_wp2_with fail
  go_ret
  exact ⟨rfl, rfl⟩
theorem clone_any (p : Option Addr) (m c : Nat) (l : List Ky) (hm : m ≤ 4294967295) (w : World) (h : Kys w (.slice p m c) l) :
    Calls Tryz.prog 62 #[.slice p m c] w fun e w' => (∃ p' c', e = .returned (.slice p' m c') ∧ m ≤ c' ∧ NewKs w.heap.size w' (.slice p' m m) l) ∧ Below w.heap.size w w' := by
  have hl := h.ptr.1
  refine (clone_list Tryz.cloneKy kyC_len kyC_one (by decide) infoK rfl (by decide) Tryz.sizeOf62 p m c l hm w h).mono ?_
  rintro e w' ⟨v, rfl, hv, hb⟩
  have hn := rw.own_new kyC_len (by decide) hv
  obtain ⟨p', c', rfl⟩ := hn.form
  rw [hl] at hn ⊢
  exact ⟨⟨p', c', rfl, (hn.rw kyC_len).ptr.2.1, hn.clip⟩, hb⟩
set_option maxHeartbeats 1000000 in
theorem All_any (M b : Nat) (S : List Ky) (w : World) (hS : SetK M w b S) :
    Calls Tryz.prog 32 #[.pointer (some ⟨b, 0, none⟩)] w fun e w' => (∃ p, e = .returned (.slice p S.length S.length) ∧ NewKs w.heap.size w' (.slice p S.length S.length) S) ∧ Below w.heap.size w w' := by
  obtain ⟨p, c, hblk, hrw⟩ := hS.form
  have c0 : w.cell? ⟨b, 0, none⟩ = some (.slice p S.length c) := cell_in hblk
  have hb : b < w.heap.size := lt_of_block hblk
  have hlen := hS.len
  have HC := Lib.hid (clone_any p S.length c S (by omega) w hrw)
  clear hblk hrw hS
  go_enter Tryz.func32, Tryz.ntmps32
  go_wp2_with fail
  refine HC.out.mono ?_
  rintro e w1 ⟨⟨p1, c1, rfl, hc1, hn1⟩, hb1⟩
  have HN1 := Lib.hid hn1
  have Hb1 := Lib.hid hb1
  clear hn1 hb1
  go_wp2_with fail
  refine (clip_any p1 S.length c1 hc1 (by omega) w1).mono ?_
  rintro e w2 ⟨rfl, rfl⟩
  go_wp2_with fail
  go_ret
  exact ⟨⟨_, rfl, HN1.out⟩, Hb1.out⟩
end Go.Proofs.YtpfhhaonfbfheaaGreatDoor.ky
