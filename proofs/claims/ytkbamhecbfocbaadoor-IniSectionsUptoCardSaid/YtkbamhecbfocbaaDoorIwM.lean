/- tinderboxlaw06.IniSections returns true. Conditions: the lines and the numbers lie in memory as their lists; the tables hold what the text lays. -/
import Derived.Test.YtkbamhecbfocbaaDoorIwJ
import Derived.Test.YtkbamhecbfocbaaDoorIwO
import Derived.Test.YtkbamhecbfocbaaDoorIwL
import Derived.Test.YtkbamhecbfocbaaDoorIpC
import Derived.Deep.RegionLaw
import Derived.Deep.AppendLies
import Derived.Deep.DeepCutAuto
import Derived.ChangeSlices
namespace Go.Proofs.YtkbamhecbfocbaaDoor.ini
open Go.ChangeShapes Go.WideShapes Go.ChangeAt Go.RowKit gl

/-- A slice of n numbers that may be read. -/
def Ints (W : World) (v : Value) (n : Nat) : Prop := ∃ p c, v = .slice p n c ∧ n ≤ c ∧ (n = 0 ∨ ∃ b o, p = some ⟨b, o, none⟩ ∧ b < W.heap.size ∧ ∀ j, j < n → ∃ z, W.cell? ⟨b, o + j, none⟩ = some (.int .i64 z) ∧ -9223372036854775808 ≤ z ∧ z ≤ 9223372036854775807)
theorem infoI : (Tryd.prog.info? 3).map (fun i => (i.zero, i.size, i.bytes)) = some (some (.int .i64 0), 1, 8) := by kernel_rfl
def intC (l : List Nat) : List Value := l.map fun t : Nat => Value.int .i64 (t : Int)
theorem intC_snoc (l : List Nat) (k : Nat) : intC l ++ [.int .i64 (k : Int)] = intC (l ++ [k]) := by simp [intC]
theorem intC_at {l : List Nat} {j k : Nat} (h : l[j]? = some k) : (intC l)[j]? = some (.int .i64 (k : Int)) := by simp [intC, h]
theorem append_b (l : List UInt8) (s : ByteArray) (a : List UInt8) (h : s.data.toList = a) : Lib.byteCells l ++ (s.data.toList.map fun b => Value.int .u8 (b.toNat : Int)) = Lib.byteCells (l ++ a) := by
  subst h
  simp [Lib.byteCells]
theorem cat_is (x y : ByteArray) (a b : List UInt8) (hx : x.data.toList = a) (hy : y.data.toList = b) (h : x.size + y.size ≤ 9223372036854775807) : ∃ z : ByteArray, z.data.toList = a ++ b ∧ z.size = x.size + y.size ∧ ∀ wx : World, (Op.stringOp .add x y).run Tryd.prog wx = .ok (.string z) wx :=
  ⟨x ++ y, by simp [hx, hy], ByteArray.size_append, fun wx => run_string_add_sum wx _ _ h⟩
theorem row_ptr {w : World} {base n cap s : Nat} {q : Option Addr} {t : TypeId} {vals : List Value} (h : w.ownsRow base t s (.slice q n cap) n vals) (h0 : 0 < n) : ∃ g, q = some ⟨g, 0, none⟩ ∧ g < w.heap.size := by
  rcases h.2 with ⟨h1, h2⟩ | ⟨g, c, cur, h1, _, h3, _⟩
  · omega
  · cases h1; exact ⟨g, rfl, lt_of_block h3⟩
theorem row_cap {w : World} {base n cap s : Nat} {q : Option Addr} {t : TypeId} {vals : List Value} (h : w.ownsRow base t s (.slice q n cap) n vals) : n ≤ cap := by
  rcases h.2 with ⟨h1, h2⟩ | ⟨g, c, cur, h1, _, _, h4, _⟩
  · omega
  · cases h1; exact h4

theorem wt_few {l : List Ln} {m : Nat} (hm : l.length = m) (h : wtV l 0 ≤ 2147483647) : m ≤ 214748364 ∧ ∀ x ∈ l, x.name.length ≤ 2147483647 ∧ x.text.length ≤ 2147483647 := by
  have h1 := wt_sum l 0 (by omega) h
  have h2 := ws_len l
  refine ⟨by omega, fun x hx => ?_⟩
  have := ws_mem hx
  omega
theorem egPr (args : Array Value) (w : World) : (callFunc 17 args).run Tryd.prog w = .ok (.enter 17 args) w := enters Tryd.func17 (by kernel_rfl) (by kernel_rfl) args w

set_option maxHeartbeats 8000000 in
set_option maxRecDepth 100000 in
theorem iniSections_any (p : Option Addr) (c : Nat) (l : List Ln) (hl : l.length ≤ 9223372036854775807) (raw : Value) (nr : Nat) (_hnr : nr ≤ 9223372036854775807) (w : World) (hf : LinesOk w p c l) (hR : Ints w raw nr) (hG : Glo w) :
    Calls Tryd.prog 7 #[.slice p l.length c, raw] w fun e w' => e = .returned (.bool true) ∧ Below w.heap.size w w' := by
  obtain ⟨i0, hi, hz0, hz1, hz2⟩ := info_parts Tryd.infoByte
  obtain ⟨i1, hi1, hy0, hy1, hy2⟩ := info_parts infoI
  obtain ⟨pr, cr, rfl, hrc, hrp⟩ := hR
  have Hrp := Lib.hid hrp
  clear hrp
  obtain ⟨m, hm⟩ : ∃ m, m = l.length := ⟨_, rfl⟩
  have Hm := Lib.hid hm
  rw [← hm]
  rw [← hm] at hl
  have hLns := hf.1
  rw [← hm] at hLns
  have H := Lib.hid hLns
  have HG := Lib.hid hG
  have hok := hf.2
  obtain ⟨_, hmc, hptr⟩ := hLns.ptr
  have Hptr := Lib.hid hptr
  have hw0 := wtV_ge l 0 (by omega)
  have hw1 := wtV_le l 0 (by omega) (by omega)
  have HW : Hid (∀ W, Below w.heap.size w W → Calls Tryd.prog 14 #[.slice p m c] W fun e w' => e = .returned (.int .i64 (wtV l 0)) ∧ Below W.heap.size W w') := Lib.hid fun W hW => (weight_any p m c l W hl (fun x hx => ⟨(hok x hx).1, (hok x hx).2.1⟩) (hLns.later hW)).mono fun e w' ⟨h1, q, h2⟩ => ⟨h1, by rw [h2]; exact drewN_bel W q⟩
  have HSm : Hid (wtV l 0 ≤ 1073741823 → m ≤ 214748364 ∧ ws l ≤ 1073741823 ∧ ∀ x ∈ l, x.name.length ≤ 2147483647 ∧ x.text.length ≤ 2147483647) := Lib.hid fun h => by
    have h0 := wt_few hm.symm (by omega)
    have h1 := wt_sum l 0 (by omega) (by omega)
    exact ⟨h0.1, by omega, h0.2⟩
  generalize wtV l 0 = wt at *
  have b1 := addV_bd wt wt hw0 hw0
  have HA1 := Lib.hid fun W => add_any wt wt hw0 (by omega) hw0 (by omega) W
  have L1 : Hid (addV wt wt ≤ 2147483647 → wt ≤ 1073741823) := Lib.hid fun h => by have := (addV_lo hw0 hw0 h); omega
  generalize addV wt wt = a1 at *
  clear hf hG hok hm hLns hptr
  go_enter Tryd.func7, Tryd.ntmps7
  go_wp2_with fail
  refine (HW.out _ (Below.refl _ _)).mono ?_
  rintro e w1 ⟨rfl, hb1⟩
  have Hb1 := Lib.hid hb1
  clear hb1
  go_wp2_with fail
  refine (HW.out _ Hb1.out).mono ?_
  rintro e w2 ⟨rfl, hb2⟩
  have Hb2 := Lib.hid (then_bel Hb1.out hb2)
  clear hb2
  go_wp2_with fail
  refine (HA1.out _).mono ?_
  rintro e w0 ⟨rfl, hw0'⟩
  obtain rfl : w2 = w0 := hw0'.symm
  by_cases hbig : 2147483647 < a1
  · go_wp2_with fail
    go_ret
    exact ⟨rfl, Hb2.out⟩
  · have hwt := L1.out (by omega)
    obtain ⟨hm2, hws, hlx⟩ := HSm.out hwt
    have Hlx := Lib.hid hlx
    have Hws := Lib.hid hws
    clear hlx hws HSm L1 HA1 HW
    go_wp2_with fail
    refine (awake_any _ (HG.out.below Hb2.out (Nat.le_refl _))).mono ?_
    rintro e w3 ⟨rfl, hb3⟩
    have Hb3 := Lib.hid (then_bel Hb2.out hb3)
    clear hb3
    go_wp2_with fail
    have HP := Lib.hid (print_any p m c l w3 (by omega) Hlx.out (H.out.later Hb3.out) (HG.out.below Hb3.out (Nat.le_refl _)))
    refine HP.out.mono ?_
    rintro e w4 ⟨rfl, hb4⟩
    dsimp only
    have Hb4 := Lib.hid (then_bel Hb3.out hb4)
    clear hb4 HP
    have Htwo := Lib.hid (printL_two l)
    have H0 : Hid ((printL l).2 = 0 → ∀ cs : List Cut, Cuts l l.length cs → ((secAll cs).length ≤ 8000 ∧ parseL (secAll cs) = (numb2 0 l, 0, 0)) ∨ (8000 < (secAll cs).length ∧ parseL (secAll cs) = ([], 61, 0))) := Lib.hid fun h cs hc => cuts_parse hc h
    have H1 : Hid ((printL l).2 = 0 → ∀ x ∈ l, printL [⟨x.name, x.text, 0⟩] = (lineOut x, 0)) := Lib.hid fun h x hx => print_one h hx 0
    obtain ⟨T, hT⟩ : ∃ T, T = B (printL l).1 := ⟨_, rfl⟩
    rw [← hT]
    clear hT
    have HE : Hid ((printL l).2 = 1 ∨ ((printL l).2 = 0 ∧ ∀ x ∈ l, nameL x.name = true ∧ x.text.length ≤ 200)) := Lib.hid (by
      rcases Htwo.out with h | ⟨h, h1, h2⟩
      · exact .inl (by rw [h])
      · refine .inr ⟨by rw [h], fun x hx => ?_⟩
        obtain ⟨a, b⟩ := Oks_mem l [] h1 x hx
        exact ⟨a, b⟩)
    clear Htwo
    obtain ⟨E, hE⟩ : ∃ E, E = (printL l).2 := ⟨_, rfl⟩
    rw [← hE] at H0 H1 HE
    rw [← hE]
    clear hE
    rcases HE.out with rfl | ⟨rfl, hnm⟩
    · go_wp2_with fail
      go_ret
      exact ⟨rfl, Hb4.out⟩
    · have Hnm := Lib.hid hnm
      have H1' := Lib.hid (H1.out rfl)
      have H0' := Lib.hid (H0.out rfl)
      clear H0 H1 HE hnm
      have hwz : w.heap.size ≤ w4.heap.size := Hb4.out.size
      go_wp2_with fail
      go_loopw [8, 9] (fun ov i wr => ∃ (k n : Nat) (q : Option Addr) (cq : Nat), k ≤ m ∧ i = .int .i64 k ∧ ov = .slice q n cq ∧ n ≤ 1073741823 ∧ Hid (∃ cs, Cuts l k cs ∧ (secAll cs).length = n ∧ wr.ownsRow w4.heap.size 5 1 (.slice q n cq) n (Lib.byteCells (secAll cs))) ∧ Hid (Below w4.heap.size w4 wr)) (fun _ i _ => m - (intOf i).toNat)
      case atStart => exact ⟨0, 0, none, 0, by omega, rfl, rfl, by omega, Lib.hid ⟨[], cuts_start l, rfl, rfl, .inl ⟨rfl, rfl⟩⟩, Lib.hid (Below.refl _ _)⟩
      case round =>
        obtain ⟨wo, rfl⟩ : ∃ wo, wo = wr := ⟨_, rfl⟩
        obtain ⟨k, n, q, cq, hk, rfl, rfl, hn, HO, Hb⟩ := hrel
        have hzr : w4.heap.size ≤ wo.heap.size := Hb.out.size
        have Hbw := Lib.hid (Hb4.out.trans (Hb.out.mono hwz))
        by_cases hlt : k < m
        · obtain ⟨bp, o, rfl, hbl⟩ := Hptr.out (by omega)
          obtain ⟨x, hx⟩ : ∃ x, l[k]? = some x := ⟨_, List.getElem?_eq_getElem (by rw [← Hm.out]; exact hlt)⟩
          have hxm := List.mem_of_getElem? hx
          obtain ⟨hnx, htx⟩ := Hnm.out x hxm
          have hn32 := name_len hnx
          obtain ⟨N, hN⟩ : ∃ N, N = B x.name := ⟨_, rfl⟩
          obtain ⟨X, hX⟩ : ∃ X, X = B x.text := ⟨_, rfl⟩
          have HN : Hid (N.data.toList = x.name) := Lib.hid (by rw [hN, B_list])
          have HNz : Hid (x.name.length = N.size) := Lib.hid (by rw [hN, B_size])
          have hNs : N.size ≤ 32 := by rw [hN, B_size]; exact hn32
          have hXs : X.size ≤ 200 := by rw [hX, B_size]; exact htx
          have HNB := Lib.hid hN
          have HXB := Lib.hid hX
          have Hx := Lib.hid hx
          have Hxm := Lib.hid hxm
          have HLr : Hid (∀ W, Below wo.heap.size wo W → W.cell? ⟨bp, o + k * 3, none⟩ = some (.string N) ∧ W.cell? ⟨bp, o + k * 3 + 1, none⟩ = some (.string X)) := Lib.hid fun W hW => by
            obtain ⟨c0, c1, _⟩ := ((H.out.later Hbw.out).later hW).cells hx
            rw [hN, hX]
            exact ⟨c0, c1⟩
          obtain ⟨c0, c1⟩ := HLr.out wo (Below.refl _ _)
          have hbr : bp < wo.heap.size := by have := Hbw.out.size; omega
          clear hx hN hX hxm hnx htx hn32
          go_wp2_with fail
          go_loopw [10, 11] (fun av i wq => ∃ (j na : Nat) (qa : Option Addr) (ca : Nat), j ≤ N.size ∧ i = .int .i64 j ∧ av = .slice qa na ca ∧ na ≤ j ∧ Hid ((pts 0 (x.name.take j)).length = na) ∧ Hid (wq.ownsRow wo.heap.size 3 1 (.slice qa na ca) na (intC (pts 0 (x.name.take j)))) ∧ Hid (Below wo.heap.size wo wq)) (fun _ i _ => N.size - (intOf i).toNat)
          case atStart => exact ⟨0, 0, none, 0, by omega, rfl, rfl, by omega, Lib.hid (by simp [pts]), Lib.hid ⟨by simp [intC, pts], .inl ⟨rfl, rfl⟩⟩, Lib.hid (Below.refl _ _)⟩
          case round =>
            obtain ⟨wq, rfl⟩ : ∃ wq, wq = wr := ⟨_, rfl⟩
            obtain ⟨j, na, qa, ca, hj, rfl, rfl, hna, Hpl, HP, Hbq⟩ := hrel
            have hzq : wo.heap.size ≤ wq.heap.size := Hbq.out.size
            obtain ⟨d0, d1⟩ := HLr.out wq Hbq.out
            have hbq : bp < wq.heap.size := by omega
            by_cases hjt : j < N.size
            · obtain ⟨b, hb, hbk, hb0, hb1⟩ := byteAt N j hjt
              have hbk' := hbk hjt
              have Hpt : Hid (pts 0 (x.name.take (j + 1)) = if b = 46 then pts 0 (x.name.take j) ++ [j] else pts 0 (x.name.take j)) := Lib.hid (pts_take (by rw [← HN.out]; exact hb))
              clear hb
              by_cases h46 : b.toNat = 46
              · have q1 : ((b.toNat : Int) == 46) = true := by rw [h46]; rfl
                have Hbb : Hid (pts 0 (x.name.take (j + 1)) = pts 0 (x.name.take j) ++ [j]) := Lib.hid (by rw [Hpt.out, if_pos (UInt8.toNat_inj.1 (by rw [h46]; rfl))])
                clear h46
                focus
                  go_wp2_with (at_builtin; go_must (refine wpList_append_lit rfl _ _ 41 rfl 3 i1 _ 8 Tryd.underlying41 hi1 hy0 hy1 hy2 rfl _ 1 (by omega) (by rfl) (by rfl) wo.heap.size _ na _ (by rfl) HP.out (by simp [Value.oneCell']) (by omega) (by omega) (by omega) ?_))
                intro g2 c2 w2' hown2 hgrow2 hat2 hz2' hlt2
                have HP2 : Hid (w2'.ownsRow wo.heap.size 3 1 (.slice (some ⟨g2, 0, none⟩) (na + 1) c2) (na + 1) (intC (pts 0 (x.name.take (j + 1))))) := Lib.hid (by
                  rw [Hbb.out, ← intC_snoc]
                  exact hown2)
                have Hbq2 := Lib.hid (below_grown_own Hbq.out HP.out hgrow2 hzq)
                have Hpl2 : Hid ((pts 0 (x.name.take (j + 1))).length = na + 1) := Lib.hid (by rw [Hbb.out, List.length_append, Hpl.out]; rfl)
                clear hown2 hgrow2 hat2 hz2'
                go_wp2_with fail
                go_roundw
                case rel => exact ⟨j + 1, na + 1, _, c2, by omega, by go_num, rfl, by omega, Hpl2, HP2, Hbq2⟩
                case measure => simp [intOf]; omega
              · have q1 : ((b.toNat : Int) == 46) = false := by simp; omega
                have Hbb : Hid (pts 0 (x.name.take (j + 1)) = pts 0 (x.name.take j)) := Lib.hid (by rw [Hpt.out, if_neg (by rintro rfl; exact h46 rfl)])
                clear h46
                go_wp2_with fail
                go_roundw
                case rel => exact ⟨j + 1, na, _, ca, by omega, by go_num, rfl, by omega, Lib.hid (by rw [Hbb.out]; exact Hpl.out), Lib.hid (by rw [Hbb.out]; exact HP.out), Hbq⟩
                case measure => simp [intOf]; omega
            · obtain rfl : j = N.size := by omega
              have Htk : Hid (x.name.take N.size = x.name) := Lib.hid (List.take_of_length_le (by rw [HNz.out]; exact Nat.le_refl _))
              rw [Htk.out] at Hpl HP
              have hnc := row_cap HP.out
              have Hcell : Hid (∀ t, t < na → ∃ g kk : Nat, qa = some ⟨g, 0, none⟩ ∧ g < wq.heap.size ∧ kk < N.size ∧ wq.cell? ⟨g, t, none⟩ = some (.int .i64 (kk : Int)) ∧ x.name[kk]? = some 46) := Lib.hid fun t ht => by
                obtain ⟨g, hg, hgs⟩ := row_ptr HP.out (by omega)
                obtain ⟨kk, hkk⟩ : ∃ kk, (pts 0 x.name)[t]? = some kk := ⟨_, List.getElem?_eq_getElem (by rw [Hpl.out]; exact ht)⟩
                have hmem := (pts_mem x.name 0 kk (List.mem_of_getElem? hkk)).2
                have hc := HP.out.cells (g := g) (by rw [hg]; rfl) t _ (intC_at hkk)
                refine ⟨g, kk, hg, hgs, ?_, ?_, by simpa using hmem⟩
                · have := ls.lt_get hmem
                  rw [HNz.out] at this
                  omega
                · rw [ls.addN, Nat.zero_add] at hc; exact hc
              have HOq : Hid (∃ cs, Cuts l k cs ∧ (secAll cs).length = n ∧ wq.ownsRow w4.heap.size 5 1 (.slice q n cq) n (Lib.byteCells (secAll cs))) := Lib.hid (by
                obtain ⟨cs, h1, h2, h3⟩ := HO.out
                exact ⟨cs, h1, h2, ls.own_kept h3 Hbq.out⟩)
              have Hbq4 := Lib.hid (Hb.out.trans (Hbq.out.mono hzr))
              have hzq4 : w4.heap.size ≤ wq.heap.size := by omega
              have hnaN : na ≤ N.size := hna
              clear hna HP Hpl Htk HO Hb Hbw c0 c1
              go_upto_if 73 with (fail)
              go_cut [12] (fun cv wx => ∃ z : Int, cv = .int .i64 z ∧ -9223372036854775808 ≤ z ∧ z ≤ 9223372036854775807 ∧ wx = wq)
              case first =>
                by_cases hkr : k < nr
                · obtain ⟨br, or_, rfl, hbrs, hrz⟩ := (by simpa [show nr ≠ 0 by omega] using Hrp.out : ∃ b o, pr = some ⟨b, o, none⟩ ∧ b < w.heap.size ∧ ∀ j, j < nr → ∃ z, w.cell? ⟨b, o + j, none⟩ = some (.int .i64 z) ∧ -9223372036854775808 ≤ z ∧ z ≤ 9223372036854775807)
                  obtain ⟨z, hz, hzl, hzu⟩ := hrz k hkr
                  have r0 : wq.cell? ⟨br, or_ + k, none⟩ = some (.int .i64 z) := ((Hb4.out.trans (Hbq4.out.mono hwz)).cell (p := ⟨br, or_ + k, none⟩) hbrs).trans hz
                  have hbrq : br < wq.heap.size := by omega
                  clear hz hrz
                  go_wp2_with fail
                  go_meet
                  exact ⟨z, rfl, hzl, hzu, rfl⟩
                · go_wp2_with fail
                  go_meet
                  exact ⟨(k : Int), rfl, by omega, by omega, rfl⟩
              case rest =>
                obtain ⟨z, rfl, hzl, hzu, hwc⟩ := hcut
                obtain rfl : wq = wc := hwc.symm
                go_upto_region 22 with fail
                go_cut [90] (fun b wx => ∃ bb : Bool, b = .bool bb ∧ (bb = true → 0 < na) ∧ wx = wq)
                case first =>
                  by_cases hna0 : 0 < na
                  · have HK3 := Lib.hid fun W => pick_any z 3 (by omega) (by omega) hzl hzu W
                    go_wp2_with fail
                    refine (HK3.out _).mono ?_
                    rintro e w0 ⟨rfl, hw0'⟩
                    obtain rfl : wq = w0 := hw0'.symm
                    go_wp2_with fail
                    go_meet
                    exact ⟨_, rfl, fun _ => hna0, rfl⟩
                  · obtain rfl : na = 0 := by omega
                    go_wp2_with fail
                    go_meet
                    exact ⟨_, rfl, fun h => by simp at h, rfl⟩
                case rest =>
                  obtain ⟨bb, rfl, hbb, hwc⟩ := hcut
                  obtain rfl : wq = wc := hwc.symm
                  go_upto_if 90 with (fail)
                  go_cut [13, 14] (fun sv nv wx => ∃ S R : ByteArray, sv = .string S ∧ nv = .string R ∧ Hid (cutOk x (S.data.toList, R.data.toList)) ∧ S.size ≤ 32 ∧ R.size ≤ 32 ∧ wx = wq)
                  case first =>
                    cases bb with
                    | false =>
                      go_wp2_with fail
                      go_meet
                      exact ⟨⟨#[]⟩, N, rfl, rfl, Lib.hid (by rw [HN.out]; exact .inl ⟨rfl, rfl⟩), by decide, hNs, rfl⟩
                    | true =>
                      have hna0 := hbb rfl
                      have HKn := Lib.hid fun W => pick_any z na (by omega) (by omega) hzl hzu W
                      have hpn := pickV_bd z na (by omega)
                      obtain ⟨t, ht⟩ : ∃ t : Nat, pickV z na = (t : Int) := ⟨(pickV z na).toNat, by omega⟩
                      rw [ht] at HKn hpn
                      clear ht hbb
                      have htn : t < na := by omega
                      obtain ⟨ga, kk, rfl, hga, hkk, hck, hdot⟩ := Hcell.out t htn
                      have Hdot := Lib.hid hdot
                      clear hdot Hcell
                      obtain ⟨S, hS⟩ : ∃ S, S = N.extract 0 kk := ⟨_, rfl⟩
                      obtain ⟨R, hR⟩ : ∃ R, R = N.extract (kk + 1) N.size := ⟨_, rfl⟩
                      have HSl : Hid (S.data.toList = x.name.take kk) := Lib.hid (by rw [hS, ← HN.out]; simp)
                      have HRl : Hid (R.data.toList = x.name.drop (kk + 1)) := Lib.hid (by rw [hR, ← HN.out]; simp; rw [List.take_of_length_le]; rw [List.length_drop, toList_len]; exact Nat.le_refl _)
                      have Hcut : Hid (cutOk x (S.data.toList, R.data.toList)) := Lib.hid (by rw [HSl.out, HRl.out]; exact cutOk_at Hdot.out)
                      have hSz : S.size ≤ 32 := by have := extract_size_le N 0 kk; rw [hS]; omega
                      have hRz : R.size ≤ 32 := by have := extract_size_le N (kk + 1) N.size; rw [hR]; omega
                      have hS' := hS.symm
                      have hR' := hR.symm
                      clear hS hR
                      go_wp2_with fail
                      refine (HKn.out _).mono ?_
                      rintro e w0 ⟨rfl, hw0'⟩
                      obtain rfl : wq = w0 := hw0'.symm
                      go_wp2_with fail
                      go_meet
                      exact ⟨S, R, rfl, rfl, Hcut, hSz, hRz, rfl⟩
                  case rest =>
                    obtain ⟨S, R, rfl, rfl, Hcut, hSz, hRz, hwc⟩ := hcut
                    obtain rfl : wq = wc := hwc.symm
                    clear Hcell hbb
                    obtain ⟨L, hL⟩ : ∃ L, L = B (lineOut x) := ⟨_, rfl⟩
                    have hLl : L.size = N.size + ((textL x.text).length + 4) := by
                      rw [hL, B_size, ← HNz.out]
                      exact (show (lineOut x).length = x.name.length + ((textL x.text).length + 4) by unfold lineOut headL; simp only [List.length_append, List.length_cons, List.length_nil]; omega)
                    have htl := textL_le x.text
                    have hXz : x.text.length ≤ 200 := by rw [← B_size, ← HXB.out]; exact hXs
                    have hLz : L.size ≤ 2000 := by omega
                    have hNL : N.size ≤ L.size := by omega
                    have HPr : Hid (∀ W : World, Below wq.heap.size wq W → W.heap[wq.heap.size]? = some (.cells #[.string N, .string X, .int .i64 0] 35 (0, 0)) → Calls Tryd.prog 17 #[.slice (some ⟨wq.heap.size, 0, none⟩) 1 1] W fun e w' => e = .returned (.tuple #[.string L, .int .i64 0]) ∧ Below wq.heap.size wq w') := Lib.hid fun W hW hblk => by
                      have hl1 := lns_lit (l := [⟨x.name, x.text, 0⟩]) hblk (by rw [HNB.out, HXB.out]; rfl)
                      have hG1 := HG.out.below (Hb4.out.trans ((Hbq4.out.mono hwz).trans (hW.mono (by omega)))) (Nat.le_refl _)
                      refine (print_any (some ⟨wq.heap.size, 0, none⟩) 1 1 [⟨x.name, x.text, 0⟩] W (by omega) (fun y hy => ?_) hl1 hG1).mono fun e w' h => ?_
                      · obtain rfl := List.mem_singleton.1 hy
                        exact Hlx.out x Hxm.out
                      · rw [H1'.out x Hxm.out, ← hL] at h
                        exact ⟨h.1, then_bel hW h.2⟩
                    have HT : Hid (L.extract N.size L.size = B ((lineOut x).drop x.name.length)) := Lib.hid (by
                      rw [hL, B_size, HNB.out, B_size]
                      apply ByteArray.ext
                      simp
                      rw [List.take_of_length_le]; rw [List.length_drop]; exact Nat.le_refl _)
                    obtain ⟨T, hT⟩ : ∃ T, L.extract N.size L.size = T := ⟨_, rfl⟩
                    have hTz : T.size ≤ 2000 := by have := extract_size_le L N.size L.size; rw [← hT]; omega
                    have HTl : Hid (T.data.toList = (lineOut x).drop x.name.length) := Lib.hid (by rw [← hT, HT.out, B_list])
                    have h91 : (⟨#[91]⟩ : ByteArray).size = 1 := rfl
                    have h93 : (⟨#[93, 10]⟩ : ByteArray).size = 2 := rfl
                    obtain ⟨S1, l1, z1, q1⟩ := cat_is ⟨#[91]⟩ S [91] _ rfl rfl (by omega)
                    obtain ⟨S2, l2, z2, q2⟩ := cat_is S1 ⟨#[93, 10]⟩ _ [93, 10] l1 rfl (by omega)
                    obtain ⟨S3, l3, z3, q3⟩ := cat_is S2 R _ _ l2 rfl (by omega)
                    obtain ⟨S4, l4, z4, q4⟩ := cat_is S3 T _ _ l3 HTl.out (by omega)
                    have hS4z : S4.size ≤ 5000 := by omega
                    have HS4 : Hid (S4.data.toList = secLine x (S.data.toList, R.data.toList)) := Lib.hid (by rw [l4]; exact secLine_of x (S.data.toList, R.data.toList))
                    have HPa : Calls Tryd.prog 17 #[.slice (some ⟨wq.heap.size, 0, none⟩) 1 1] (wq.alloc (.cells #[.string N, .string X, .int .i64 0] 35)).drew fun e w' => e = .returned (.tuple #[.string L, .int .i64 0]) ∧ Below wq.heap.size wq w' := HPr.out _ ((Below.refl _ _).alloc (Nat.le_refl _) _).drew (heap_alloc_new wq _)
                    have HPa' := Lib.hid HPa
                    clear HPa HPr l1 l2 l3 l4 z1 z2 z3 z4 hL hLl htl HT h91 h93
                    go_upto_region 26 with fail
                    go_cut [16, 17] (fun lv ev wx => lv = .string L ∧ ev = .int .i64 0 ∧ Hid (Below wq.heap.size wq wx))
                    case first =>
                      clear q1 q2 q3 q4 hT
                      go_region_law
                        (first
                          | (refine step_call (by rfl) 17 _ _ (by rfl) egPr _ (by rfl) _ _ HPa'.out ?_; intro w5 hb5)
                          | fail)
                      all_goals
                        go_wp2_with fail
                        go_meet
                        exact ⟨rfl, rfl, Lib.hid (by assumption)⟩
                    case rest =>
                      obtain ⟨rfl, rfl, hcb⟩ := hcut
                      obtain ⟨w5, hw5⟩ : ∃ w5, w5 = wc := ⟨_, rfl⟩
                      rw [← hw5] at hcb ⊢
                      have hb5 := hcb.out
                      clear hw5 hcb HPa'
                      obtain ⟨g0, g1⟩ := HLr.out w5 (then_bel Hbq.out hb5)
                      have hz5q := hb5.size
                      have hbr5 : bp < w5.heap.size := by omega
                      obtain ⟨cs, hcs, hcl, hown⟩ := HOq.out
                      have hO5 := Lib.hid (ls.own_kept hown hb5)
                      have hC' := Lib.hid (cuts_snoc hcs Hx.out Hcut.out)
                      have hlen' : Hid ((secAll (cs ++ [(x, (S.data.toList, R.data.toList))])).length = n + S4.size) := Lib.hid (by rw [secAll_snoc, List.length_append, hcl, ← HS4.out, toList_len])
                      have hle : n + S4.size ≤ 1073741823 := by rw [← hlen'.out]; exact Nat.le_trans (cuts_len hC'.out) Hws.out
                      have hb45 := Lib.hid (Hbq4.out.trans (hb5.mono hzq4))
                      have hz54 : w4.heap.size ≤ w5.heap.size := hb45.out.size
                      have hncq := row_cap hO5.out
                      clear hcs hcl hown hb5
                      focus
                        go_wp2_with (at_builtin; go_must (refine wpList_append_str rfl (.tmp 123) (.tmp 137) 32 9 rfl w4.heap.size 5 i0 Tryd.underlying32 Tryd.underlying9 hi hz0 hz1 hz2 _ n _ (by rfl) hO5.out S4 (by rfl) (by unfold maxLen; omega) (by omega) (by omega) ?_))
                      intro v6 w6 hown6 hgrow6 hat6
                      obtain ⟨q6, n6, c6, rfl, hn6, hnc6⟩ : ∃ (q : Option Addr) (n6 c : Nat), v6 = .slice q n6 c ∧ n6 = n + S4.size ∧ n6 ≤ c := by
                        rcases hown6.2 with ⟨h, h0⟩ | ⟨g, cap, cur, h, _, _, h2, _⟩
                        · exact ⟨none, 0, 0, h, by omega, Nat.le_refl _⟩
                        · exact ⟨_, _, cap, h, rfl, h2⟩
                      rw [← hn6] at hown6
                      have hO6 : Hid (∃ cs, Cuts l (k + 1) cs ∧ (secAll cs).length = n6 ∧ w6.ownsRow w4.heap.size 5 1 (.slice q6 n6 c6) n6 (Lib.byteCells (secAll cs))) := Lib.hid ⟨_, hC'.out, by rw [hlen'.out, hn6], by
                        rw [bytes_str, HS4.out] at hown6
                        rw [secAll_snoc]
                        exact hown6⟩
                      have hb6 := Lib.hid (below_grown_own hb45.out hO5.out hgrow6 hz54)
                      have hn69 : n6 ≤ 1073741823 := by omega
                      clear hown6 hgrow6 hat6 hn6 q1 q2 q3 q4 hT hC' hlen' hO5
                      go_wp2_with fail
                      go_roundw
                      case rel => exact ⟨k + 1, n6, q6, c6, by omega, by go_num, rfl, hn69, hO6, hb6⟩
                      case measure => simp [intOf]; omega
        · obtain rfl : k = m := by omega
          obtain ⟨cs, hcs, hcl, hown⟩ := HO.out
          have hHO := Lib.hid hown
          have Hcl := Lib.hid hcl
          have HC : Hid (Cuts l l.length cs) := Lib.hid (by rw [← Hm.out]; exact hcs)
          clear hcs hown hcl HO
          have Htw := Lib.hid (H0'.out cs HC.out)
          go_wp2_with (refine wpList_string_of_own rfl 32 9 5 (.tmp 140) rfl w4.heap.size _ _ _ (by rfl) hHO.out Tryd.underlying32 Tryd.underlying5 Tryd.underlying9 ?_)
          have HPD := Lib.hid (parse_any (B (secAll cs)) (by rw [B_size, Hcl.out]; omega) wo (HG.out.below Hbw.out (Nat.le_refl _)))
          rw [B_list] at HPD
          have hncq := row_cap hHO.out
          rcases Htw.out with ⟨hlen, hpp⟩ | ⟨hlen, hpp⟩
          · rw [Hcl.out] at hlen
            have hlong : ¬ (8000 : Int) < (n : Int) := by omega
            rw [hpp] at HPD
            clear hpp Htw HC hHO Hcl
            have HLn := Lib.hid (numb2_get l 0)
            have hl2 : (numb2 0 l).length = k := by rw [numb2_len, ← Hm.out]
            generalize numb2 0 l = L2 at *
            refine HPD.out.mono ?_
            rintro e wD ⟨⟨vD, rfl, hnD⟩, hbD⟩
            obtain ⟨pD, cD, rfl⟩ := hnD.form
            dsimp only
            have HbD := Lib.hid (then_bel Hbw.out hbD)
            have HD := Lib.hid hnD.lns
            obtain ⟨_, hcD, hpD⟩ := hnD.lns.ptr
            have HpD := Lib.hid hpD
            rw [hl2] at hcD
            rw [hl2]
            have Hl2 := Lib.hid hl2
            clear hbD hnD HPD hpD hl2
            go_wp2_with fail
            go_loopw [21] (fun i wr => ∃ j q : Nat, j ≤ k ∧ i = .int .i64 j ∧ wr = wD.drewN q) (fun i _ => k - (intOf i).toNat)
            case atStart => exact ⟨0, 0, by omega, rfl, rfl⟩
            case round =>
              obtain ⟨j, qj, hj, rfl, rfl⟩ := hrel
              by_cases hlt2 : j < k
              · obtain ⟨x, hx⟩ : ∃ x, l[j]? = some x := ⟨_, List.getElem?_eq_getElem (by rw [← Hm.out]; exact hlt2)⟩
                have hy := HLn.out j x hx
                obtain ⟨b, o, rfl, hbl⟩ := Hptr.out (by omega)
                obtain ⟨b', o', rfl, hbl'⟩ := HpD.out (by rw [Hl2.out]; omega)
                obtain ⟨c0, c1, _⟩ := (H.out.later HbD.out).cells hx
                obtain ⟨d0, d1, d2⟩ := HD.out.cells hy
                dsimp only at d0 d1 d2
                have hbD : b < wD.heap.size := by have := HbD.out.size; omega
                have hnum : ((0 : Nat) : Int) + 2 * (j : Int) + 2 = 2 * (j : Int) + 2 := by omega
                rw [hnum] at d2
                clear hx hy hnum
                generalize B x.name = n1 at *
                generalize B x.text = x1 at *
                replace c0 : (wD.drewN qj).cell? ⟨b, o + j * 3, none⟩ = some (.string n1) := c0
                replace c1 : (wD.drewN qj).cell? ⟨b, o + j * 3 + 1, none⟩ = some (.string x1) := c1
                replace d0 : (wD.drewN qj).cell? ⟨b', o' + j * 3, none⟩ = some (.string n1) := d0
                replace d1 : (wD.drewN qj).cell? ⟨b', o' + j * 3 + 1, none⟩ = some (.string x1) := d1
                replace d2 : (wD.drewN qj).cell? ⟨b', o' + j * 3 + 2, none⟩ = some (.int .i64 (2 * (j : Int) + 2)) := d2
                generalize hq : wD.drewN qj = wk at *
                have Hq := Lib.hid hq
                clear hq
                have q1 : (n1.toList == n1.toList) = true := by simp
                have q1' : (n1.toList != n1.toList) = false := by simp
                have q2 : (x1.toList == x1.toList) = true := by simp
                have q2' : (x1.toList != x1.toList) = false := by simp
                have q3 : ((2 * (j : Int) + 2) == (2 * (j : Int) + 2)) = true := by simp
                have q3' : ((2 * (j : Int) + 2) != (2 * (j : Int) + 2)) = false := by simp
                go_wp2_with fail
                go_quiet (fail)
                go_wp2_with fail
                go_roundw
                case rel => exact ⟨j + 1, _, by omega, by go_num, by rw [← Hq.out, World.drewN_drewN]⟩
                case measure => simp [intOf]; omega
              · obtain rfl : j = k := by omega
                go_wp2_with fail
                go_ret
                exact ⟨rfl, then_bel HbD.out (drewN_bel wD qj)⟩
          · rw [Hcl.out] at hlen
            have hlong : (8000 : Int) < (n : Int) := by omega
            rw [hpp] at HPD
            clear hpp Htw HC hHO Hcl
            refine HPD.out.mono ?_
            rintro e wD ⟨⟨vD, rfl, hnD⟩, hbD⟩
            obtain ⟨pD, cD, rfl⟩ := hnD.form
            dsimp only
            have HbD := Lib.hid (then_bel Hbw.out hbD)
            clear hbD hnD HPD
            go_wp2_with fail
            go_ret
            exact ⟨rfl, HbD.out⟩
theorem cIntW : Tryd.prog.cellsOf 3 = 1 := by kernel_rfl
theorem ints_of {H : Type} {enc : TypeId × Value → H} {W : World} {v : Value} {d : DataW H} {ps : List MemPlace} (h : DataW.Trod enc Tryd.prog W 0 (fun _ => true) true 41 v d ps) (hv : v.cells.toList = [v]) :
    ∃ p cap, ∃ l : List Int, v = .slice p l.length cap ∧ l.length ≤ maxLen ∧ Ints W (.slice p l.length cap) l.length := by
  obtain ⟨fuel, hf⟩ := h
  rw [hv] at hf
  rcases Go.ChangeShapes.open_ints Tryd.underlying41 Tryd.underlying3 cIntW hf with ⟨h0, _⟩ | ⟨a, len, cap, zs, hcs, _, hl, hm, hz, _, hat, hwf⟩
  · simp only [List.cons.injEq, and_true] at h0
    exact ⟨none, 0, [], h0, Nat.zero_le _, none, 0, rfl, Nat.le_refl _, .inl rfl⟩
  · simp only [List.cons.injEq, and_true] at hcs
    simp only [if_true] at hz
    refine ⟨some a, cap, zs.take len, ?_, ?_, some a, cap, rfl, ?_, ?_⟩
    · rw [List.length_take, Nat.min_eq_left (by omega)]; exact hcs
    · rw [List.length_take]; omega
    · rw [List.length_take]; omega
    · by_cases h0 : len = 0
      · subst h0
        exact .inl rfl
      · have hz0 := hat 0 (by omega)
        have hsp : a.spot = none := by
          have := spot_none hz0
          simpa [Addr.add] using this
        obtain ⟨b, o, sp⟩ := a
        simp only at hsp
        subst hsp
        refine .inr ⟨b, o, rfl, ?_, fun j hj => ?_⟩
        · have := World.block_lt_of_cell? _ _ hz0
          rw [add_none] at this
          exact this
        · rw [List.length_take] at hj
          have hc := hat j (by omega)
          rw [add_none] at hc
          have hg : zs.getD j 0 = zs[j]'(by omega) := by rw [List.getD_eq_getElem?_getD, List.getElem?_eq_getElem (by omega)]; rfl
          have := wf_b (hwf _ (List.getElem_mem (by omega : j < zs.length)))
          rw [hg] at hc
          exact ⟨_, hc, this.1, this.2⟩
end Go.Proofs.YtkbamhecbfocbaaDoor.ini
