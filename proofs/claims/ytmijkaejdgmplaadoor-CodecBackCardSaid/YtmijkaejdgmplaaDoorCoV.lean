/- tinderboxlaw03.CodecWrites returns true. Conditions: the script lies in memory as its list; the variable errors.errorType holds what the program's text lays. -/
import Derived.Test.YtmijkaejdgmplaaDoorCoS
import Derived.StillTailTactics
namespace Go.Proofs.YtmijkaejdgmplaaDoor.co
open Go.ChangeShapes Go.WideShapes Go.ChangeAt Go.RowKit

structure Two (w0 w : World) (b0 b1 c0 c1 sb sx : Nat) (s0 s1 : Wst) (U0 U1 : List Nat) : Prop where
  p0 : Pair w b0 c0 s0 U0
  p1 : Pair w b1 c1 s1 U1
  a : Apart U0 U1
  hb : w.heap[sb]? = some (.cells #[.pointer (some ⟨b0, 0, none⟩), .pointer (some ⟨b1, 0, none⟩)] 25 (0, 0))
  hx : w.heap[sx]? = some (.cells #[.pointer (some ⟨c0, 0, none⟩), .pointer (some ⟨c1, 0, none⟩)] 28 (0, 0))
  n0 : ∀ k ∈ U0, w0.heap.size ≤ k ∧ k ≠ sb ∧ k ≠ sx
  n1 : ∀ k ∈ U1, w0.heap.size ≤ k ∧ k ≠ sb ∧ k ≠ sx
  bel : Below w0.heap.size w0 w
theorem Two.step0 {w0 w w' : World} {b0 b1 c0 c1 sb sx : Nat} {s0 s1 s : Wst} {U0 U1 : List Nat} (h : Two w0 w b0 b1 c0 c1 sb sx s0 s1 U0 U1) (hm : Moves U0 w w' (Pair w' b0 c0 s)) : ∃ U, Two w0 w' b0 b1 c0 c1 sb sx s s1 U U1 := by
  obtain ⟨U, hp, hu, hS⟩ := hm
  exact ⟨U, hp, h.p1.kept hu h.a.symm, h.a.moved h.p1.lt hS, hu.obj h.hb fun hk => (h.n0 _ hk).2.1 rfl, hu.obj h.hx fun hk => (h.n0 _ hk).2.2 rfl,
    fun k hk => by
      rcases hS k hk with h' | h'
      · exact h.n0 k h'
      · have h1 := lt_of_block h.hb
        have h2 := lt_of_block h.hx
        have h3 := h.bel.size
        exact ⟨by omega, by omega, by omega⟩,
    h.n1, h.bel.trans (hu.below (fun k hk => (h.n0 k hk).1) h.bel.size)⟩
theorem Two.step1 {w0 w w' : World} {b0 b1 c0 c1 sb sx : Nat} {s0 s1 s : Wst} {U0 U1 : List Nat} (h : Two w0 w b0 b1 c0 c1 sb sx s0 s1 U0 U1) (hm : Moves U1 w w' (Pair w' b1 c1 s)) : ∃ U, Two w0 w' b0 b1 c0 c1 sb sx s0 s U0 U := by
  obtain ⟨U, hp, hu, hS⟩ := hm
  exact ⟨U, h.p0.kept hu h.a, hp, (h.a.symm.moved h.p0.lt hS).symm, hu.obj h.hb fun hk => (h.n1 _ hk).2.1 rfl, hu.obj h.hx fun hk => (h.n1 _ hk).2.2 rfl,
    h.n0, fun k hk => by
      rcases hS k hk with h' | h'
      · exact h.n1 k h'
      · have h1 := lt_of_block h.hb
        have h2 := lt_of_block h.hx
        have h3 := h.bel.size
        exact ⟨by omega, by omega, by omega⟩, h.bel.trans (hu.below (fun k hk => (h.n1 k hk).1) h.bel.size)⟩
theorem Two.below {w0 w w' : World} {b0 b1 c0 c1 sb sx : Nat} {s0 s1 : Wst} {U0 U1 : List Nat} (h : Two w0 w b0 b1 c0 c1 sb sx s0 s1 U0 U1) (hb : Below w.heap.size w w') : Two w0 w' b0 b1 c0 c1 sb sx s0 s1 U0 U1 :=
  ⟨h.p0.below hb, h.p1.below hb, h.a, (hb.block _ (lt_of_block h.hb)).trans h.hb, (hb.block _ (lt_of_block h.hx)).trans h.hx, h.n0, h.n1, h.bel.trans (hb.mono h.bel.size)⟩

/-- Nothing has turned. -/
theorem below_drewN (w : World) (n : Nat) : Below w.heap.size w (w.drewN n) := ⟨rfl, rfl, rfl, Nat.le_refl _, fun _ _ => rfl⟩

/-- At the start. -/
theorem two_new {w w1 w2 w3 w4 : World} {m0 m1 : Nat} (h1 : IsW w1 w.heap.size ⟨[], m0, 0⟩ [w.heap.size]) (b1 : Below w.heap.size w w1) (h2 : IsW w2 w1.heap.size ⟨[], m1, 0⟩ [w1.heap.size]) (b2 : Below w1.heap.size w1 w2)
    (h3 : IsX w3 (w2.heap.size + 1) ⟨[], m0, 0⟩ [w2.heap.size + 1]) (b3 : Below (w2.heap.size + 1) (w2.alloc (.cells #[.pointer (some ⟨w.heap.size, 0, none⟩), .pointer (some ⟨w1.heap.size, 0, none⟩)] 25)) w3)
    (h4 : IsX w4 w3.heap.size ⟨[], m1, 0⟩ [w3.heap.size]) (b4 : Below w3.heap.size w3 w4) :
    Two w (w4.alloc (.cells #[.pointer (some ⟨w2.heap.size + 1, 0, none⟩), .pointer (some ⟨w3.heap.size, 0, none⟩)] 28)) w.heap.size w1.heap.size (w2.heap.size + 1) w3.heap.size w2.heap.size w4.heap.size ⟨[], m0, 0⟩ ⟨[], m1, 0⟩ [w.heap.size, w2.heap.size + 1] [w1.heap.size, w3.heap.size] := by
  have l1 := h1.lt _ (List.mem_singleton.2 rfl)
  have l2 := h2.lt _ (List.mem_singleton.2 rfl)
  have l3 := h3.lt _ (List.mem_singleton.2 rfl)
  have l4 := h4.lt _ (List.mem_singleton.2 rfl)
  have z1 := b1.size
  have z2 := b2.size
  have z3 := b3.size
  have z4 := b4.size
  simp only [World.size_alloc] at z3
  have ba : Below w2.heap.size w2 (w2.alloc (.cells #[.pointer (some ⟨w.heap.size, 0, none⟩), .pointer (some ⟨w1.heap.size, 0, none⟩)] 25)) := (Below.refl _ _).alloc (Nat.le_refl _) _
  have be : Below w4.heap.size w4 (w4.alloc (.cells #[.pointer (some ⟨w2.heap.size + 1, 0, none⟩), .pointer (some ⟨w3.heap.size, 0, none⟩)] 28)) := (Below.refl _ _).alloc (Nat.le_refl _) _
  have b3' : Below w2.heap.size w2 w3 := ba.trans (b3.mono (by omega))
  have b24 : Below w2.heap.size w2 (w4.alloc (.cells #[.pointer (some ⟨w2.heap.size + 1, 0, none⟩), .pointer (some ⟨w3.heap.size, 0, none⟩)] 28)) := (b3'.trans (b4.mono (by omega))).trans (be.mono (by omega))
  refine ⟨⟨[w.heap.size], [w2.heap.size + 1], rfl, (h1.below b2).below b24, (h3.below b4).below be, ?_⟩, ⟨[w1.heap.size], [w3.heap.size], rfl, h2.below b24, h4.below be, ?_⟩, ?_, ?_, heap_alloc_new w4 _, ?_, ?_, (b1.trans (b2.mono (by omega))).trans (b24.mono (by omega))⟩
  · intro k hk; simp only [List.mem_singleton] at *; omega
  · intro k hk; simp only [List.mem_singleton] at *; omega
  · intro k hk; simp only [List.mem_cons, List.not_mem_nil, or_false] at *; omega
  · refine (be.block _ (by omega)).trans ((b4.block _ (by omega)).trans ((b3.block _ (by omega)).trans (heap_alloc_new w2 _)))
  · intro k hk; simp only [List.mem_cons, List.not_mem_nil, or_false] at hk; omega
  · intro k hk; simp only [List.mem_cons, List.not_mem_nil, or_false] at hk; omega

theorem wt_cons (o : OpD) (r : List OpD) : wt (o :: r) = (100 + o.s.size) + wt r := by simp [wt]

set_option maxHeartbeats 8000000 in
set_option maxRecDepth 100000 in
theorem codecWrites_any (one two : Int) (h1a : one ≤ 9223372036854775807) (h2a : two ≤ 9223372036854775807) (p : Option Addr) (cap : Nat) (l : List OpD) (w : World) (hl : l.length ≤ 9223372036854775807) (h : Script w p l) (hg : Reg w) :
    Calls Tryd.prog 3 #[.int .i64 one, .int .i64 two, .slice p l.length cap] w fun e w' => e = .returned (.bool true) ∧ Below w.heap.size w w' := by
  have H := Lib.hid h
  have Hg := Lib.hid hg
  clear h hg
  go_enter Tryd.func3, Tryd.ntmps3
  go_wp2_with fail
  refine (size_any p cap l _ hl H.out).mono ?_
  rintro e w1 ⟨rfl, hb⟩
  have HB1 := Lib.hid hb
  clear hb
  by_cases hbig : sizeV l 0 > 2147483647
  · go_wp2_with fail
    go_ret
    exact ⟨rfl, HB1.out⟩
  have hwt : wt l ≤ 2147483647 := by
    have := sizeV_wt l 0 (by simpa using hbig)
    omega
  generalize sizeV l 0 = sv at hbig
  go_wp2_with fail
  refine (awake_any _ (Hg.out.below HB1.out)).mono ?_
  rintro e w2 ⟨rfl, hb⟩
  have HB2 := Lib.hid (HB1.out.trans (hb.mono HB1.out.size))
  clear hb
  go_wp2_with fail
  refine (NewWriter_any one _).mono ?_
  rintro e w3 ⟨rfl, hn, hb⟩
  have HN3 := Lib.hid hn
  have HB3 := Lib.hid hb
  clear hn hb
  go_wp2_with fail
  refine (NewWriter_any two _).mono ?_
  rintro e w4 ⟨rfl, hn, hb⟩
  have HN4 := Lib.hid hn
  have HB4 := Lib.hid hb
  clear hn hb
  go_wp2_with fail
  refine (xNewWriter_any one _).mono ?_
  rintro e w5 ⟨he, hn, hb⟩
  simp only [World.size_alloc] at he hn hb
  subst he
  have HN5 := Lib.hid hn
  have HB5 := Lib.hid hb
  clear hn hb
  go_wp2_with fail
  refine (xNewWriter_any two _).mono ?_
  rintro e w6 ⟨rfl, hn, hb⟩
  have HT := Lib.hid (two_new HN3.out HB3.out HN4.out HB4.out HN5.out HB5.out hn hb)
  clear hn hb
  have hc0 := cell_in (o := 0) HT.out.hb
  have hc1 := cell_in (o := 1) HT.out.hb
  simp only [List.getElem?_toArray, List.getElem?_cons_succ, List.getElem?_cons_zero] at hc0 hc1
  go_wp2_with fail
  obtain ⟨wE, hE⟩ : ∃ wE, wE = w6.alloc (.cells #[.pointer (some ⟨w4.heap.size + 1, 0, none⟩), .pointer (some ⟨w5.heap.size, 0, none⟩)] 28) := ⟨_, rfl⟩
  rw [← hE] at HT ⊢
  clear hE hc0 hc1
  go_loopw [10] (fun i wr => ∃ (k : Nat) (s0 s1 : Wst) (U0 U1 : List Nat), k ≤ l.length ∧ i = .int .i64 (k : Int) ∧ Hid (Two w2 wr w2.heap.size w3.heap.size (w4.heap.size + 1) w5.heap.size w4.heap.size w6.heap.size s0 s1 U0 U1) ∧ (s0.ok ∧ s1.ok) ∧ Hid (s0.most = one.toNat ∧ s1.most = two.toNat) ∧ s0.out.length + wt (l.drop k) ≤ wt l ∧ s1.out.length + wt (l.drop k) ≤ wt l) (fun i _ => (l.length - intOf i).toNat)
  case atStart => exact ⟨0, _, _, _, _, by omega, rfl, HT, ⟨by unfold Wst.ok; simp, by unfold Wst.ok; simp⟩, Lib.hid ⟨rfl, rfl⟩, by simp, by simp⟩
  case round =>
    obtain ⟨k, s0, s1, U0, U1, hk, rfl, HTr, ⟨ok0, ok1⟩, HM, hs0, hs1⟩ := hrel
    have hm0 : s0.most ≤ 9223372036854775807 := by have := HM.out.1; omega
    have hm1 : s1.most ≤ 9223372036854775807 := by have := HM.out.2; omega
    have HBr := Lib.hid (HB2.out.trans (HTr.out.bel.mono HB2.out.size))
    by_cases hlt : k < l.length
    · have hlt' : (k : Int) < (l.length : Int) := by omega
      obtain ⟨hok, b, off, rfl, hat⟩ := H.out k l[k] (List.getElem?_eq_getElem hlt)
      have Hget : Hid (l[k]? = some l[k]) := Lib.hid (List.getElem?_eq_getElem hlt)
      generalize l[k] = o at *
      have hwk : wt (l.drop k) = (100 + o.s.size) + wt (l.drop (k + 1)) := by rw [drop_cons Hget.out, wt_cons]
      have hsz0 : s0.out.length + 9 + o.s.size ≤ 140737488355328 := by omega
      have hsz1 : s1.out.length + 9 + o.s.size ≤ 140737488355328 := by omega
      have HW0 : Hid ((s0.step o).out.length + wt (l.drop (k + 1)) ≤ wt l ∧ s0.out.length + wt (l.drop (k + 1)) ≤ wt l) := Lib.hid (by have := Wst.len_step s0 o; omega)
      have HW1 : Hid ((s1.step o).out.length + wt (l.drop (k + 1)) ≤ wt l ∧ s1.out.length + wt (l.drop (k + 1)) ≤ wt l) := Lib.hid (by have := Wst.len_step s1 o; omega)
      clear hwk hs0 hs1
      have hc0 : wr.cell? ⟨b, off + k * 4, none⟩ = some (.int .i64 o.kind) := (HBr.out.cell (p := ⟨b, off + k * 4, none⟩) hat.lt).trans hat.c0
      have hc1 : wr.cell? ⟨b, off + k * 4 + 1, none⟩ = some (.int .i64 o.on) := (HBr.out.cell (p := ⟨b, off + k * 4 + 1, none⟩) hat.lt).trans hat.c1
      have hc2 : wr.cell? ⟨b, off + k * 4 + 2, none⟩ = some (.int .i64 o.n) := (HBr.out.cell (p := ⟨b, off + k * 4 + 2, none⟩) hat.lt).trans hat.c2
      have hc3 : wr.cell? ⟨b, off + k * 4 + 3, none⟩ = some (.string o.s) := (HBr.out.cell (p := ⟨b, off + k * 4 + 3, none⟩) hat.lt).trans hat.c3
      have Hok := Lib.hid hok
      clear hok hat
      have hd0 := cell_in (o := 0) HTr.out.hb
      have hd1 := cell_in (o := 1) HTr.out.hb
      have hx0 := cell_in (o := 0) HTr.out.hx
      have hx1 := cell_in (o := 1) HTr.out.hx
      simp only [List.getElem?_toArray, List.getElem?_cons_succ, List.getElem?_cons_zero] at hd0 hd1 hx0 hx1
      go_wp2_with fail
      refine (pick_any o.on 2 (by omega) (by omega) Hok.out.on1 Hok.out.on2 _).mono ?_
      rintro e w7 ⟨rfl, rfl⟩
      have hpv := pickV_bd o.on 2 (by omega)
      rcases (show pickV o.on 2 = 0 ∨ pickV o.on 2 = 1 by omega) with hp | hp
      · rw [hp]
        clear hp hpv
        go_wp2_with fail
        go_still_tail 12, (by kernel_rfl)
        have HTd := Lib.hid (HTr.out.below (Below.drew (Below.refl _ wr)))
        go_wp2_with fail
        refine (writes_any _ _ o s0 U0 _ HTd.out.p0 Hok.out.s Hok.out.n2 hm0 ok0 hsz0).mono ?_
        rintro e w8 ⟨rfl, hM⟩
        have HA : Hid (∃ (s0' s1' : Wst) (U0' U1' : List Nat), Two w2 w8 w2.heap.size w3.heap.size (w4.heap.size + 1) w5.heap.size w4.heap.size w6.heap.size s0' s1' U0' U1' ∧ (s0'.ok ∧ s1'.ok) ∧ (s0'.most = one.toNat ∧ s1'.most = two.toNat) ∧ s0'.out.length + wt (l.drop (k + 1)) ≤ wt l ∧ s1'.out.length + wt (l.drop (k + 1)) ≤ wt l) := by
          obtain ⟨U', hT8⟩ := HTd.out.step0 hM
          exact ⟨s0.step o, s1, U', U1, hT8, ⟨Wst.ok_step ok0 o, ok1⟩, ⟨(Wst.most_step s0 o).trans HM.out.1, HM.out.2⟩, HW0.out.1, HW1.out.2⟩
        clear hM
        obtain ⟨s0', s1', U0', U1', hT8, hoks, hmosts, hl0, hl1⟩ := HA.out
        have HT8 := Lib.hid hT8
        have HI := Lib.hid (And.intro hoks (And.intro hmosts (And.intro hl0 hl1)))
        clear HA hT8 hoks hmosts hl0 hl1 hc0 hc1 hc2 hc3 hd0 hd1 hx0 hx1 HW0 HW1 hsz0 hsz1 HTd
        go_wp2_with fail
        obtain ⟨wo, hwo⟩ : ∃ wo : World, wo = wr := ⟨_, rfl⟩
        clear hwo
        go_loopw [12] (fun j wq => ∃ m : Nat, m ≤ 2 ∧ j = .int .i64 (m : Int) ∧ Hid (Two w2 wq w2.heap.size w3.heap.size (w4.heap.size + 1) w5.heap.size w4.heap.size w6.heap.size s0' s1' U0' U1')) (fun j _ => (2 - intOf j).toNat)
        case atStart => exact ⟨0, by omega, rfl, HT8⟩
        case round =>
          obtain ⟨m, hm2, rfl, HTq⟩ := hrel
          by_cases hlm : m < 2
          · have hd0 := cell_in (o := 0) HTq.out.hb
            have hd1 := cell_in (o := 1) HTq.out.hb
            have hx0 := cell_in (o := 0) HTq.out.hx
            have hx1 := cell_in (o := 1) HTq.out.hx
            simp only [List.getElem?_toArray, List.getElem?_cons_succ, List.getElem?_cons_zero] at hd0 hd1 hx0 hx1
            have HTd := Lib.hid (HTq.out.below (Below.drew (Below.refl _ _)))
            rcases (show m = 0 ∨ m = 1 by omega) with rfl | rfl
            · rw [show ((0 : Nat) : Int) = 0 from rfl]
              go_wp2_with fail
              go_still_tail 8, (by kernel_rfl)
              go_wp2_with fail
              refine (written_any _ _ s0' U0' _ (Hg.out.below (HB2.out.trans (HTd.out.bel.mono HB2.out.size))) HTd.out.p0).mono ?_
              rintro e w9 ⟨rfl, hb⟩
              have HT9 := Lib.hid (HTd.out.below hb)
              clear hb hd0 hd1 hx0 hx1
              go_wp2_with fail
              go_roundw
              case rel => exact ⟨1, by omega, rfl, HT9⟩
              case measure => simp [intOf]
            · rw [show ((1 : Nat) : Int) = 1 from rfl]
              go_wp2_with fail
              go_still_tail 8, (by kernel_rfl)
              go_wp2_with fail
              refine (written_any _ _ s1' U1' _ (Hg.out.below (HB2.out.trans (HTd.out.bel.mono HB2.out.size))) HTd.out.p1).mono ?_
              rintro e w9 ⟨rfl, hb⟩
              have HT9 := Lib.hid (HTd.out.below hb)
              clear hb hd0 hd1 hx0 hx1
              go_wp2_with fail
              go_roundw
              case rel => exact ⟨2, by omega, rfl, HT9⟩
              case measure => simp [intOf]
          · obtain rfl : m = 2 := by omega
            rw [show ((2 : Nat) : Int) = 2 from rfl]
            go_wp2_with fail
            go_roundw
            case rel => exact ⟨k + 1, s0', s1', U0', U1', by omega, by go_num, HTq, HI.out.1, Lib.hid HI.out.2.1, HI.out.2.2.1, HI.out.2.2.2⟩
            case measure => simp [intOf]; omega
      · rw [hp]
        clear hp hpv
        go_wp2_with fail
        go_still_tail 12, (by kernel_rfl)
        have HTd := Lib.hid (HTr.out.below (Below.drew (Below.refl _ wr)))
        go_wp2_with fail
        refine (writes_any _ _ o s1 U1 _ HTd.out.p1 Hok.out.s Hok.out.n2 hm1 ok1 hsz1).mono ?_
        rintro e w8 ⟨rfl, hM⟩
        have HA : Hid (∃ (s0' s1' : Wst) (U0' U1' : List Nat), Two w2 w8 w2.heap.size w3.heap.size (w4.heap.size + 1) w5.heap.size w4.heap.size w6.heap.size s0' s1' U0' U1' ∧ (s0'.ok ∧ s1'.ok) ∧ (s0'.most = one.toNat ∧ s1'.most = two.toNat) ∧ s0'.out.length + wt (l.drop (k + 1)) ≤ wt l ∧ s1'.out.length + wt (l.drop (k + 1)) ≤ wt l) := by
          obtain ⟨U', hT8⟩ := HTd.out.step1 hM
          exact ⟨s0, s1.step o, U0, U', hT8, ⟨ok0, Wst.ok_step ok1 o⟩, ⟨HM.out.1, (Wst.most_step s1 o).trans HM.out.2⟩, HW0.out.2, HW1.out.1⟩
        clear hM
        obtain ⟨s0', s1', U0', U1', hT8, hoks, hmosts, hl0, hl1⟩ := HA.out
        have HT8 := Lib.hid hT8
        have HI := Lib.hid (And.intro hoks (And.intro hmosts (And.intro hl0 hl1)))
        clear HA hT8 hoks hmosts hl0 hl1 hc0 hc1 hc2 hc3 hd0 hd1 hx0 hx1 HW0 HW1 hsz0 hsz1 HTd
        go_wp2_with fail
        obtain ⟨wo, hwo⟩ : ∃ wo : World, wo = wr := ⟨_, rfl⟩
        clear hwo
        go_loopw [12] (fun j wq => ∃ m : Nat, m ≤ 2 ∧ j = .int .i64 (m : Int) ∧ Hid (Two w2 wq w2.heap.size w3.heap.size (w4.heap.size + 1) w5.heap.size w4.heap.size w6.heap.size s0' s1' U0' U1')) (fun j _ => (2 - intOf j).toNat)
        case atStart => exact ⟨0, by omega, rfl, HT8⟩
        case round =>
          obtain ⟨m, hm2, rfl, HTq⟩ := hrel
          by_cases hlm : m < 2
          · have hd0 := cell_in (o := 0) HTq.out.hb
            have hd1 := cell_in (o := 1) HTq.out.hb
            have hx0 := cell_in (o := 0) HTq.out.hx
            have hx1 := cell_in (o := 1) HTq.out.hx
            simp only [List.getElem?_toArray, List.getElem?_cons_succ, List.getElem?_cons_zero] at hd0 hd1 hx0 hx1
            have HTd := Lib.hid (HTq.out.below (Below.drew (Below.refl _ _)))
            rcases (show m = 0 ∨ m = 1 by omega) with rfl | rfl
            · rw [show ((0 : Nat) : Int) = 0 from rfl]
              go_wp2_with fail
              go_still_tail 8, (by kernel_rfl)
              go_wp2_with fail
              refine (written_any _ _ s0' U0' _ (Hg.out.below (HB2.out.trans (HTd.out.bel.mono HB2.out.size))) HTd.out.p0).mono ?_
              rintro e w9 ⟨rfl, hb⟩
              have HT9 := Lib.hid (HTd.out.below hb)
              clear hb hd0 hd1 hx0 hx1
              go_wp2_with fail
              go_roundw
              case rel => exact ⟨1, by omega, rfl, HT9⟩
              case measure => simp [intOf]
            · rw [show ((1 : Nat) : Int) = 1 from rfl]
              go_wp2_with fail
              go_still_tail 8, (by kernel_rfl)
              go_wp2_with fail
              refine (written_any _ _ s1' U1' _ (Hg.out.below (HB2.out.trans (HTd.out.bel.mono HB2.out.size))) HTd.out.p1).mono ?_
              rintro e w9 ⟨rfl, hb⟩
              have HT9 := Lib.hid (HTd.out.below hb)
              clear hb hd0 hd1 hx0 hx1
              go_wp2_with fail
              go_roundw
              case rel => exact ⟨2, by omega, rfl, HT9⟩
              case measure => simp [intOf]
          · obtain rfl : m = 2 := by omega
            rw [show ((2 : Nat) : Int) = 2 from rfl]
            go_wp2_with fail
            go_roundw
            case rel => exact ⟨k + 1, s0', s1', U0', U1', by omega, by go_num, HTq, HI.out.1, Lib.hid HI.out.2.1, HI.out.2.2.1, HI.out.2.2.2⟩
            case measure => simp [intOf]; omega
    · have hd : decide ((k : Int) < (l.length : Int)) = false := by simp; omega
      have hd0 := cell_in (o := 0) HTr.out.hb
      have hd1 := cell_in (o := 1) HTr.out.hb
      have hx0 := cell_in (o := 0) HTr.out.hx
      have hx1 := cell_in (o := 1) HTr.out.hx
      simp only [List.getElem?_toArray, List.getElem?_cons_succ, List.getElem?_cons_zero] at hd0 hd1 hx0 hx1
      have HTd := Lib.hid (HTr.out.below (Below.drew (Below.refl _ _)))
      clear hs0 hs1
      go_wp2_with fail
      go_still_tail 6, (by kernel_rfl)
      go_wp2_with fail
      refine (written_any _ _ s0 U0 _ (Hg.out.below (HB2.out.trans (HTd.out.bel.mono HB2.out.size))) HTd.out.p0).mono ?_
      rintro e w9 ⟨rfl, hb⟩
      have HT9 := Lib.hid (HTd.out.below hb)
      clear hb hd0 hd1 hx0 hx1
      have hd0 := cell_in (o := 0) HT9.out.hb
      have hd1 := cell_in (o := 1) HT9.out.hb
      have hx0 := cell_in (o := 0) HT9.out.hx
      have hx1 := cell_in (o := 1) HT9.out.hx
      simp only [List.getElem?_toArray, List.getElem?_cons_succ, List.getElem?_cons_zero] at hd0 hd1 hx0 hx1
      have HTd2 := Lib.hid (HT9.out.below (Below.drew (Below.refl _ _)))
      go_wp2_with fail
      go_still_tail 6, (by kernel_rfl)
      go_wp2_with fail
      refine (written_any _ _ s1 U1 _ (Hg.out.below (HB2.out.trans (HTd2.out.bel.mono HB2.out.size))) HTd2.out.p1).mono ?_
      rintro e w10 ⟨rfl, hb⟩
      have HT10 := Lib.hid (HTd2.out.below hb)
      clear hb hd0 hd1 hx0 hx1
      go_wp2_with fail
      go_ret
      exact ⟨rfl, HB2.out.trans (HT10.out.bel.mono HB2.out.size)⟩
end Go.Proofs.YtmijkaejdgmplaaDoor.co
