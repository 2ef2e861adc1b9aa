/- tinderboxlaw06.IniNear returns true. Conditions: the lines lie in memory as their list; the tables hold what the text lays. -/
import Derived.Test.YtkbamhecbfocbaaDoorIwG
import Derived.Test.YtkbamhecbfocbaaDoorIwO
import Derived.Test.YtkbamhecbfocbaaDoorIpC
import Derived.Deep.RegionLaw
import Derived.Deep.AppendLies
namespace Go.Proofs.YtkbamhecbfocbaaDoor.ini
open Go.ChangeShapes Go.WideShapes Go.ChangeAt Go.RowKit gl

theorem convB (k : Nat) (hk : k < 256) (w : World) (n : Nat) : (convert 32 9 (.slice (some ⟨w.heap.size, 0, none⟩) 1 1)).run Tryd.prog ((w.alloc (.cells #[.int .u8 k] 5)).drewN n) = .ok (.string ⟨#[UInt8.ofNat k]⟩) ((w.alloc (.cells #[.int .u8 k] 5)).drewN n) := by
  refine run_convert_bytes_back _ _ _ 5 ⟨w.heap.size, 0, none⟩ 1 [UInt8.ofNat k] Tryd.underlying32 Tryd.underlying5 Tryd.underlying9 fun j hj => ?_
  have : j = 0 := by simp at hj; omega
  subst this
  have h := heap_alloc_new w (.cells #[.int .u8 k] 5)
  rw [ls.addN]
  show (w.alloc (.cells #[.int .u8 k] 5)).cell? ⟨w.heap.size, 0 + 0, none⟩ = _
  rw [cell_in h]
  simp
  omega
theorem cat_any (x y : ByteArray) (h : x.size + y.size ≤ 9223372036854775807) : ∃ z : ByteArray, z.size = x.size + y.size ∧ ∀ wx : World, (Op.stringOp .add x y).run Tryd.prog wx = .ok (.string z) wx :=
  ⟨x ++ y, ByteArray.size_append, fun wx => run_string_add_sum wx _ _ h⟩
theorem infoS : (Tryd.prog.info? 9).map (fun i => (i.zero, i.size, i.bytes)) = some (some (.string .empty), 1, 16) := by kernel_rfl
theorem own_lit {w : World} {g n : Nat} {vals : List Value} {t : TypeId} (h : w.heap[g]? = some (.cells vals.toArray t (0, 0))) (hn : vals.length = n) (hm : n ≤ 1000) : w.ownsRow g t 1 (.slice (some ⟨g, 0, none⟩) n n) n vals := by
  subst hn
  exact ⟨by simp, .inr ⟨g, vals.length, vals.toArray, rfl, Nat.le_refl _, h, Nat.le_refl _, by unfold maxLen; omega, by simp, by simp⟩⟩
theorem own_txts {w : World} {base g n cap : Nat} {vals : List Value} {ss : List ByteArray} (h : w.ownsRow base 9 1 (.slice (some ⟨g, 0, none⟩) n cap) n vals) (hv : vals = ss.map Value.string) : Txts w g ss := by
  refine ⟨(h.lt g rfl).2, fun j s hj => ?_⟩
  have := h.cells (g := g) rfl j (.string s) (by rw [hv, List.getElem?_map, hj]; rfl)
  rwa [ls.addN, Nat.zero_add] at this
theorem own_cap {w : World} {base g n cap : Nat} {t : TypeId} {vals : List Value} (h : w.ownsRow base t 1 (.slice (some ⟨g, 0, none⟩) n cap) n vals) : n ≤ cap := by
  rcases h.2 with ⟨h1, _⟩ | ⟨g', c, cur, h1, _, _, h2, _⟩
  · cases h1
  · cases h1; exact h2
/-- What lines may weigh. -/
theorem wt_small {l : List Ln} {m : Nat} (hm : l.length = m) (h : wtV l 0 ≤ 2147483647) : m ≤ 214748364 ∧ ∀ x ∈ l, x.name.length ≤ 2147483647 ∧ x.text.length ≤ 2147483647 := by
  have h1 := wt_sum l 0 (by omega) h
  have h2 := ws_len l
  refine ⟨by omega, fun x hx => ?_⟩
  have := ws_mem hx
  omega
theorem printL_len (l : List Ln) : (printL l).1.length ≤ 8000 := by
  rcases printL_two l with h | ⟨h, _, h2⟩
  · rw [h]; simp
  · rw [h]; exact h2

set_option maxHeartbeats 4000000 in
set_option maxRecDepth 100000 in
theorem iniNear_any (p : Option Addr) (c : Nat) (l : List Ln) (hl : l.length ≤ 9223372036854775807) (at_ : Int) (ha1 : -9223372036854775808 ≤ at_) (ha2 : at_ ≤ 9223372036854775807) (by_ : Int) (s : ByteArray) (hs : s.size ≤ 9223372036854775807) (w : World) (hf : LinesOk w p c l) (hG : Glo w) :
    Calls Tryd.prog 4 #[.slice p l.length c, .int .i64 at_, .int .i64 by_, .string s] w fun e w' => e = .returned (.bool true) ∧ Below w.heap.size w w' := by
  obtain ⟨i0, hi, hz0, hz1, hz2⟩ := info_parts infoS
  obtain ⟨m, hm⟩ : ∃ m, m = l.length := ⟨_, rfl⟩
  rw [← hm]
  rw [← hm] at hl
  have hLns := hf.1
  rw [← hm] at hLns
  have H := Lib.hid hLns
  have HG := Lib.hid hG
  have hok := hf.2
  have hw0 := wtV_ge l 0 (by omega)
  have hw1 := wtV_le l 0 (by omega) (by omega)
  have HW : Hid (∀ W, Below w.heap.size w W → Calls Tryd.prog 14 #[.slice p m c] W fun e w' => e = .returned (.int .i64 (wtV l 0)) ∧ Below W.heap.size W w') := Lib.hid fun W hW => (weight_any p m c l W hl (fun x hx => ⟨(hok x hx).1, (hok x hx).2.1⟩) (hLns.later hW)).mono fun e w' ⟨h1, q, h2⟩ => ⟨h1, by rw [h2]; exact drewN_bel W q⟩
  have HSm : Hid (wtV l 0 ≤ 2147483647 → m ≤ 214748364 ∧ ∀ x ∈ l, x.name.length ≤ 2147483647 ∧ x.text.length ≤ 2147483647) := Lib.hid fun h => wt_small hm.symm h
  generalize wtV l 0 = wt at *
  have b1 := addV_bd wt wt hw0 hw0
  have b2 := addV_bd (s.size : Int) wt (by omega) hw0
  have HA1 := Lib.hid fun W => add_any wt wt hw0 (by omega) hw0 (by omega) W
  have HA2 := Lib.hid fun W => add_any (s.size : Int) wt (by omega) (by omega) hw0 (by omega) W
  have L1 : Hid (addV wt wt ≤ 2147483647 → wt ≤ 2147483647) := Lib.hid fun h => by have := (addV_lo hw0 hw0 h); omega
  have L2 : Hid (addV (s.size : Int) wt ≤ 268435455 → s.size ≤ 268435455) := Lib.hid fun h => by have := (addV_lo (by omega) hw0 (by omega : addV (s.size : Int) wt ≤ 2147483647)); omega
  generalize addV wt wt = a1 at *
  generalize addV (s.size : Int) wt = a2 at *
  clear hf hG hok hm hLns
  go_enter Tryd.func4, Tryd.ntmps4
  go_wp2_with fail
  refine (HW.out _ (Below.refl _ _)).mono ?_
  rintro e w1 ⟨rfl, hb1⟩
  have Hb1 := Lib.hid hb1
  clear hb1
  go_wp2_with fail
  refine (HW.out _ Hb1.out).mono ?_
  rintro e w2 ⟨rfl, hb2⟩
  have Hb2 := Lib.hid (then_bel Hb1.out hb2)
  clear hb2
  go_wp2_with fail
  refine (HA1.out _).mono ?_
  rintro e w0 ⟨rfl, rfl⟩
  by_cases hbig : 2147483647 < a1
  · go_wp2_with fail
    go_ret
    exact ⟨rfl, Hb2.out⟩
  · have hwt := L1.out (by omega)
    obtain ⟨hm2, hlx⟩ := HSm.out hwt
    have Hlx := Lib.hid hlx
    clear hlx HSm L1 HA1
    go_wp2_with fail
    refine (HW.out _ Hb2.out).mono ?_
    rintro e w3 ⟨rfl, hb3⟩
    have Hb3 := Lib.hid (then_bel Hb2.out hb3)
    clear hb3
    go_wp2_with fail
    refine (HA2.out _).mono ?_
    rintro e w0 ⟨rfl, rfl⟩
    by_cases hbig2 : 268435455 < a2
    · go_wp2_with fail
      go_ret
      exact ⟨rfl, Hb3.out⟩
    · have hs2 := L2.out (by omega)
      clear L2 HA2 HW
      go_wp2_with fail
      refine (awake_any _ (HG.out.below Hb3.out (Nat.le_refl _))).mono ?_
      rintro e w4 ⟨rfl, hb4⟩
      have Hb4 := Lib.hid (then_bel Hb3.out hb4)
      clear hb4
      go_wp2_with fail
      have HP := Lib.hid (refPrint_any p m c l w4 (by omega) Hlx.out (H.out.later Hb4.out))
      have hpl := printL_len l
      obtain ⟨⟨tl, E⟩, hP⟩ : ∃ r, printL l = r := ⟨_, rfl⟩
      rw [hP] at HP hpl
      clear hP
      simp only at hpl
      obtain ⟨T, hT⟩ : ∃ T : ByteArray, T = B tl := ⟨_, rfl⟩
      have hTz : T.size ≤ 8000 := by rw [hT, B_size]; exact hpl
      refine HP.out.mono ?_
      rintro e w5 ⟨rfl, hb5⟩
      dsimp only
      rw [← hT]
      have Hb5 := Lib.hid (then_bel Hb4.out hb5)
      clear hb5 hT hpl HP
      have hpb := pickV_bd at_ ((T.size : Int) + 1) (by omega)
      have HK := Lib.hid fun W => pick_any at_ ((T.size : Int) + 1) (by omega) (by omega) ha1 ha2 W
      obtain ⟨k, hk⟩ : ∃ k : Nat, pickV at_ ((T.size : Int) + 1) = (k : Int) := ⟨(pickV at_ ((T.size : Int) + 1)).toNat, by omega⟩
      rw [hk] at HK hpb
      clear hk
      have hkT : k ≤ T.size := by omega
      go_wp2_with fail
      refine (HK.out _).mono ?_
      rintro e w0 ⟨rfl, hw0⟩
      obtain rfl : w5 = w0 := hw0.symm
      clear HK hpb
      obtain ⟨bb, hbb, hbw⟩ : ∃ bb : Nat, bb < 256 ∧ IntKind.u8.wrap by_ = (bb : Int) := ⟨(IntKind.u8.wrap by_).toNat, by rw [IntKind.wrap_u8]; omega, by rw [IntKind.wrap_u8]; omega⟩
      obtain ⟨A, hA⟩ : ∃ A : ByteArray, T.extract 0 k = A := ⟨_, rfl⟩
      obtain ⟨Z, hZ⟩ : ∃ Z : ByteArray, T.extract k T.size = Z := ⟨_, rfl⟩
      have hAz : A.size ≤ 8000 := by rw [← hA]; have := extract_size_le T 0 k; omega
      have hZz : Z.size ≤ 8000 := by rw [← hZ]; have := extract_size_le T k T.size; omega
      have hone : (⟨#[UInt8.ofNat bb]⟩ : ByteArray).size = 1 := rfl
      have hten : (⟨#[10]⟩ : ByteArray).size = 1 := rfl
      obtain ⟨Sa, za, qa⟩ := cat_any A ⟨#[UInt8.ofNat bb]⟩ (by omega)
      obtain ⟨Sb, zb, qb⟩ := cat_any Sa Z (by omega)
      obtain ⟨Sc, zc, qc⟩ := cat_any A s (by omega)
      obtain ⟨Sd, zd, qd⟩ := cat_any Sc ⟨#[10]⟩ (by omega)
      obtain ⟨Se, ze, qe⟩ := cat_any Sd Z (by omega)
      obtain ⟨Sf, zf, qf⟩ := cat_any A ⟨#[10]⟩ (by omega)
      obtain ⟨Sg, zg, qg⟩ := cat_any Sf s (by omega)
      obtain ⟨Sh, zh, qh⟩ := cat_any Sg Z (by omega)
      have yb : Sb.size ≤ 9223372036854775807 := by omega
      have ye : Se.size ≤ 9223372036854775807 := by omega
      have yh : Sh.size ≤ 9223372036854775807 := by omega
      have yA : A.size ≤ 9223372036854775807 := by omega
      have yT : T.size ≤ 9223372036854775807 := by omega
      clear zb zc zd ze zf zg zh
      have hcv : (convert 32 9 (.slice (some ⟨w5.heap.size, 0, none⟩) 1 1)).run Tryd.prog (w5.alloc (.cells #[.int .u8 bb] 5)).drew = .ok (.string ⟨#[UInt8.ofNat bb]⟩) (w5.alloc (.cells #[.int .u8 bb] 5)).drew := convB bb hbb w5 1
      go_wp2_with fail
      go_region_law (fail)
      obtain ⟨w6, hw6⟩ : ∃ w6, w6 = ((w5.alloc (.cells #[.int .u8 bb] 5)).alloc (.cells #[.string T, .string A, .string Sb, .string Se, .string Sh] 9)).drew := ⟨_, rfl⟩
      have hb6 : Below w5.heap.size w5 w6 := by rw [hw6]; exact (((Below.refl _ _).alloc (Nat.le_refl _) _).alloc (by simp) _).drew
      have hblk : w6.heap[w5.heap.size + 1]? = some (.cells [Value.string T, .string A, .string Sb, .string Se, .string Sh].toArray 9 (0, 0)) := by
        have h := heap_alloc_new (w5.alloc (.cells #[.int .u8 bb] 5)) (.cells #[.string T, .string A, .string Sb, .string Se, .string Sh] 9)
        rw [World.size_alloc] at h
        rw [hw6]; exact h
      have HO6 := Lib.hid (own_lit (n := 5) hblk rfl (by omega))
      have Hb6 := Lib.hid (then_bel Hb5.out hb6)
      obtain ⟨gb, hgb⟩ : ∃ gb, gb = w5.heap.size + 1 := ⟨_, rfl⟩
      have hgw0 : w.heap.size ≤ gb := by have := Hb5.out.size; omega
      have hz6 : gb < w6.heap.size := by have := lt_of_block hblk; omega
      rw [← hw6]
      rw [← hgb] at HO6
      rw [← hgb]
      clear hw6 hb6 hblk hgb hcv
      by_cases hkn : k < T.size
      · obtain ⟨k1, hk1⟩ : ∃ k1 : Nat, k1 = k + 1 := ⟨_, rfl⟩
        obtain ⟨Y, hY⟩ : ∃ Y : ByteArray, T.extract k1 T.size = Y := ⟨_, rfl⟩
        have hYz : Y.size ≤ 8000 := by rw [← hY]; have := extract_size_le T k1 T.size; omega
        have hk1T : k1 ≤ T.size := by omega
        have hw64 : IntKind.i64.wrap ((k : Int) + 1) = (k1 : Int) := by rw [IntWalk.i64_in _ (by omega)]; omega
        clear hk1
        obtain ⟨Si, zi, qi⟩ := cat_any A Y (by omega)
        obtain ⟨Sk, zk, qk⟩ := cat_any Sa Y (by omega)
        have yi : Si.size ≤ 9223372036854775807 := by omega
        have yk : Sk.size ≤ 9223372036854775807 := by omega
        have hcv2 : (convert 32 9 (.slice (some ⟨w6.heap.size, 0, none⟩) 1 1)).run Tryd.prog (w6.alloc (.cells #[.int .u8 bb] 5)).drew = .ok (.string ⟨#[UInt8.ofNat bb]⟩) (w6.alloc (.cells #[.int .u8 bb] 5)).drew := convB bb hbb w6 1
        have hz61 : (w6.alloc (.cells #[.int .u8 bb] 5)).heap.size = w6.heap.size + 1 := by simp
        clear zi zk za
        go_wp2_with fail
        go_region_law ((refine step_append_lit (by rfl) _ _ 25 (by rfl) 9 i0 (.string .empty) 16 Tryd.underlying25 hi hz0 hz1 hz2 (by rfl) #[.string Si, .string Sk] 2 (by omega) (by rw [hz61]; rfl) (by rfl) gb (.slice (some ⟨gb, 0, none⟩) 5 5) 5 _ (by rfl) (HO6.out.alloc _) (by simp [Value.oneCell']) (by omega) (by omega) (by rw [hz61]; omega) ?_; intro g7 c7 w7 hown7 hgrow7 hat7 hz7 hlt7; have HO7 := Lib.hid hown7; have HG7 := Lib.hid hgrow7; clear hown7 hgrow7 hat7 hz7))
        all_goals
          have hgw : w.heap.size ≤ gb := hgw0
          have hz60 := Hb6.out.size
          have Hb7 : Hid (Below w.heap.size w w7) := Lib.hid ((Hb6.out.alloc hz60 (.cells #[.int .u8 bb] 5)).grown HG7.out (by rw [hz61]; omega) fun q hq => by cases hq; exact hgw)
          have h7c := own_cap HO7.out
          clear hcv2 qa qb qc qd qe qf qg qh qi qk
          go_wp2_with fail
          refine (parses_any [T, A, Sb, Se, Sh, Si, Sk] 7 rfl (by omega) (by omega) (by
            intro x hx
            simp only [List.mem_cons, List.not_mem_nil, or_false] at hx
            rcases hx with rfl | rfl | rfl | rfl | rfl | rfl | rfl <;> assumption) g7 c7 h7c w7 (own_txts HO7.out rfl) (HG.out.below Hb7.out (Nat.le_refl _))).mono ?_
          rintro e w8 ⟨rfl, hb8⟩
          have Hb8 := Lib.hid (then_bel Hb7.out hb8)
          clear hb8
          go_wp2_with fail
          go_ret
          exact ⟨rfl, Hb8.out⟩
      · go_wp2_with fail
        refine (parses_any [T, A, Sb, Se, Sh] 5 rfl (by omega) (by omega) (by
          intro x hx
          simp only [List.mem_cons, List.not_mem_nil, or_false] at hx
          rcases hx with rfl | rfl | rfl | rfl | rfl <;> assumption) gb 5 (Nat.le_refl _) w6 (own_txts HO6.out rfl) (HG.out.below Hb6.out (Nat.le_refl _))).mono ?_
        rintro e w7 ⟨rfl, hb7⟩
        have Hb7 := Lib.hid (then_bel Hb6.out hb7)
        clear hb7 qa qb qc qd qe qf qg qh
        go_wp2_with fail
        go_ret
        exact ⟨rfl, Hb7.out⟩
end Go.Proofs.YtkbamhecbfocbaaDoor.ini
