/- Package key: Add. Conditions: texts of at most 2147483647 bytes; the listed variables hold what the program's text lays. -/
import Derived.Test.YtpfhhaonfbfheaaGreatDoorKyG
import Derived.Test.YtpfhhaonfbfheaaGreatDoorSte
import Derived.Deep.RegionLaw
namespace Go.Proofs.YtpfhhaonfbfheaaGreatDoor.ky
open Go.ChangeShapes Go.WideShapes Go.ChangeAt Go.RowKit gl va ls

theorem go_name {K : Act → World → Prop} {a : Act} {W : World} (h : ∀ W', W' = W → K a W') : K a W := h W rfl
theorem foundV_form (o : Option Ky) : foundV o = .tuple #[.agg #[.string (B (o.getD zK).name), .int .i64 (o.getD zK).kind, .string (B (o.getD zK).dflt), .int .i64 (o.getD zK).least, .int .i64 (o.getD zK).most, .string (B (o.getD zK).letter)], .bool o.isSome] := by cases o <;> rfl
theorem egIns (args : Array Value) (w : World) : (callFunc 73 args).run Tryz.prog w = .ok (.enter 73 args) w := enters Tryz.func73 (by kernel_rfl) (by kernel_rfl) args w

set_option maxHeartbeats 4000000 in
set_option maxRecDepth 100000 in
theorem Add_any (M b : Nat) (S : List Ky) (x : Ky) (w : World) (hS : SetK M w b S) (hx : KyOk x) (hM : M ≤ w.heap.size) (hV : Vlo w) :
    Calls Tryz.prog 48 #[.pointer (some ⟨b, 0, none⟩), .agg #[.string (B x.name), .int .i64 x.kind, .string (B x.dflt), .int .i64 x.least, .int .i64 x.most, .string (B x.letter)]] w fun e w' => e = .returned (.int .i64 (addE S x)) ∧ SetK M w' b (addK S x) ∧ Below M w w' := by
  obtain ⟨wA, hA⟩ : ∃ wA, wA = w.alloc (.cells #[.string (B x.name), .int .i64 x.kind, .string (B x.dflt), .int .i64 x.least, .int .i64 x.most, .string (B x.letter)] 62) := ⟨_, rfl⟩
  have kA : wA.heap[w.heap.size]? = some (.cells #[.string (B x.name), .int .i64 x.kind, .string (B x.dflt), .int .i64 x.least, .int .i64 x.most, .string (B x.letter)] 62 (0, 0)) := by rw [hA]; exact heap_alloc_new w _
  have hbA : Below w.heap.size w wA := by rw [hA]; exact (Below.refl _ _).alloc (Nat.le_refl _) _
  have HS := Lib.hid hS
  have HX := Lib.hid hx
  have HF := Lib.hid fun (W : World) (hW : Below w.heap.size w W) => formed_any x hx W ((hV.below hW (Nat.le_refl _)).glo)
  have HP : Hid (∀ (W : World), Below w.heap.size w W → ∀ {a bb : Int} {t : ByteArray} {ws : List ByteArray} {er : Int}, parse wordL x.kind x.dflt = (⟨a, bb, t, ws⟩, er) → Calls Tryz.prog 71 #[.int .i64 x.kind, .string (B x.dflt)] W fun e w' => (∃ (p : Option Addr) (n c : Nat), e = .returned (.tuple #[.agg #[.int .i64 a, .int .i64 bb, .string t, .slice p n c], .int .i64 er]) ∧ Strs w' (.slice p n c) ws ∧ n = ws.length) ∧ Below W.heap.size W w') := Lib.hid fun W hW a bb t ws er h => parsed x.kind (B x.dflt) (by rw [show (B x.dflt).size = x.dflt.length by simp [ByteArray.size]]; exact hx.2.1) (by rw [B_list]; exact h) W (hV.below hW (Nat.le_refl _))
  have HVl := Lib.hid fun (W : World) (hW : Below w.heap.size w W) => hV.below hW (Nat.le_refl _)
  have HFo := Lib.hid fun (W : World) (hW : Below w.heap.size w W) => found_any M b S x.name W (hS.later hW)
  have HLe : Hid (∀ (W : World), Below w.heap.size w W → Calls Tryz.prog 42 #[.pointer (some ⟨b, 0, none⟩), .string (B x.letter)] W fun e w' => e = .returned (.tuple #[.agg #[.string (B ((lettK S x.letter).getD zK).name), .int .i64 ((lettK S x.letter).getD zK).kind, .string (B ((lettK S x.letter).getD zK).dflt), .int .i64 ((lettK S x.letter).getD zK).least, .int .i64 ((lettK S x.letter).getD zK).most, .string (B ((lettK S x.letter).getD zK).letter)], .bool (lettK S x.letter).isSome]) ∧ Below W.heap.size W w') := Lib.hid fun W hW => by
    have h := Letter_any M b S x.letter W (hS.later hW)
    rw [foundV_form] at h
    exact h
  have HkA := Lib.hid kA
  have HbA := Lib.hid hbA
  have HA := Lib.hid hA
  have E1 := Lib.hid (@addE_form S x)
  have E2 := Lib.hid (@addE_dflt S x)
  have E3 := Lib.hid (@addE_rest S x)
  have N1 := Lib.hid (@add_no S x)
  have HD := Lib.hid (dflt_ways x)
  have HMw := Lib.hid hM
  have hbw := hS.lt
  have Hne : Hid (∀ W, Below w.heap.size w W → addE S x ≠ 0 → SetK M W b (addK S x) ∧ Below M w W) := Lib.hid fun W hW hn => by
    rw [add_no hn]
    exact ⟨hS.later hW, hW.mono hM⟩
  clear kA hbA hA hV hx hS
  generalize (lettK S x.letter).getD zK = yl at *
  obtain ⟨r, hr⟩ : ∃ r, parse wordL x.kind x.dflt = r := ⟨_, rfl⟩
  obtain ⟨⟨ra, rb, rt, rw_⟩, er⟩ := r
  have HPr := Lib.hid fun W hW => HP.out W hW hr
  rw [hr] at HD
  dsimp only at HD
  clear hr HP
  obtain ⟨nm, hnm⟩ : ∃ nm, nm = B x.name := ⟨_, rfl⟩
  obtain ⟨df, hdf⟩ : ∃ df, df = B x.dflt := ⟨_, rfl⟩
  obtain ⟨lt, hlt⟩ : ∃ lt, lt = B x.letter := ⟨_, rfl⟩
  have Hnm := Lib.hid hnm
  have Hdf := Lib.hid hdf
  have Hlt := Lib.hid hlt
  rw [← hnm, ← hdf, ← hlt] at HF HkA HA
  rw [← hnm] at HFo
  rw [← hdf] at HPr
  rw [← hlt] at HLe
  rw [← hnm, ← hdf, ← hlt]
  clear hnm hdf hlt
  go_enter Tryz.func48, Tryz.ntmps48
  go_wp2_with fail
  rw [← HA.out]
  refine (HF.out _ HbA.out).mono ?_
  rintro e w1 ⟨rfl, hb1⟩
  have Hb1 := Lib.hid (then_bel HbA.out hb1)
  have hk1 := (hb1.block _ (lt_of_block HkA.out)).trans HkA.out
  have a1 : w1.cell? ⟨w.heap.size, 1, none⟩ = some (.int .i64 x.kind) := cell_in hk1
  have a2 : w1.cell? ⟨w.heap.size, 2, none⟩ = some (.string df) := cell_in hk1
  have hgw1 : w.heap.size < w1.heap.size := lt_of_block hk1
  have Hk1 := Lib.hid hk1
  clear hb1 hk1
  obtain ⟨fx, hfx⟩ : ∃ fx, formL x = fx := ⟨_, rfl⟩
  rw [hfx]
  have Hfx := Lib.hid hfx
  clear hfx
  cases fx with
  | false =>
    have he := Lib.hid (E1.out Hfx.out)
    go_wp2_with fail
    go_ret
    refine ⟨by rw [he.out]; rfl, Hne.out _ Hb1.out (by rw [he.out]; decide)⟩
  | true =>
    go_wp2_with fail
    refine (HPr.out _ Hb1.out).mono ?_
    rintro e w2 ⟨⟨p, n, c, rfl, hst, hn⟩, hb2⟩
    have Hst := Lib.hid hst
    have Hb2 := Lib.hid (then_bel Hb1.out hb2)
    have hk2 := (hb2.block _ (lt_of_block Hk1.out)).trans Hk1.out
    have a0 : w2.cell? ⟨w.heap.size, 0, none⟩ = some (.string nm) := cell_in hk2
    have a3 : w2.cell? ⟨w.heap.size, 3, none⟩ = some (.int .i64 x.least) := cell_in hk2
    have a4 : w2.cell? ⟨w.heap.size, 4, none⟩ = some (.int .i64 x.most) := cell_in hk2
    have hgw2 : w.heap.size < w2.heap.size := lt_of_block hk2
    have Hk2 := Lib.hid hk2
    clear hb2 hk2 a1 a2 hst hn
    rcases HD.out with ⟨her, hd⟩ | ⟨her, hvb, hd⟩
    · have he := Lib.hid (E2.out Hfx.out hd)
      have q1 : (er == 0) = false := by simpa using her
      have q2 : (er != 0) = true := by simpa using her
      clear hd her
      go_wp2_with fail
      go_ret
      refine ⟨by rw [he.out]; rfl, Hne.out _ ?_ (by rw [he.out]; decide)⟩
      repeat (first | exact Hb2.out | refine Below.setCell ?_ (by simp only; omega) _ | refine Below.alloc ?_ (by omega) _)
    · subst her
      have HWi : Hid (∀ W, Below w2.heap.size w2 W → Calls Tryz.prog 72 #[.agg #[.int .i64 ra, .int .i64 rb, .string rt, .slice p n c], .int .i64 x.least, .int .i64 x.most] W fun e w' => e = .returned (.bool (dfltL x)) ∧ Below w2.heap.size w2 w') := Lib.hid fun W hW => by
        refine (Within_any ⟨ra, rb, rt, rw_⟩ hvb x.least x.most (.slice p n c) W (HVl.out _ (then_bel Hb2.out hW)) (Hst.out.below hW (Nat.le_refl _))).mono fun e w' h => ?_
        exact ⟨by rw [hd]; exact h.1, then_bel hW h.2⟩
      clear hd hvb
      go_wp2_with fail
      refine (HWi.out _ (by repeat (first | exact Below.refl _ _ | refine Below.setCell ?_ (by simp only; omega) _ | refine Below.alloc ?_ (by simp) _))).mono ?_
      rintro e w4 ⟨rfl, hb4⟩
      have Hb4 := Lib.hid (then_bel Hb2.out hb4)
      have hk4 := (hb4.block _ (lt_of_block Hk2.out)).trans Hk2.out
      have d0 : w4.cell? ⟨w.heap.size, 0, none⟩ = some (.string nm) := cell_in hk4
      have hgw4 : w.heap.size < w4.heap.size := lt_of_block hk4
      have Hk4 := Lib.hid hk4
      clear hb4 hk4 a0 a3 a4 HWi
      obtain ⟨dx, hdx⟩ : ∃ dx, dfltL x = dx := ⟨_, rfl⟩
      rw [hdx]
      have Hdx := Lib.hid hdx
      clear hdx
      cases dx with
      | false =>
        have he := Lib.hid (E2.out Hfx.out Hdx.out)
        go_wp2_with fail
        go_ret
        exact ⟨by rw [he.out]; rfl, Hne.out _ Hb4.out (by rw [he.out]; decide)⟩
      | true =>
        have he3 := Lib.hid (E3.out Hfx.out Hdx.out)
        go_wp2_with fail
        refine (HFo.out _ Hb4.out).mono ?_
        rintro e w5 ⟨⟨k, is, rfl, hFnd⟩, hb5⟩
        have HFnd := Lib.hid hFnd
        have Hff := Lib.hid (found_find HS.out.asc hFnd)
        have Hb5 := Lib.hid (then_bel Hb4.out hb5)
        have hk5 := (hb5.block _ (lt_of_block Hk4.out)).trans Hk4.out
        have d5 : w5.cell? ⟨w.heap.size, 5, none⟩ = some (.string lt) := cell_in hk5
        have hgw5 : w.heap.size < w5.heap.size := lt_of_block hk5
        have Hk5 := Lib.hid hk5
        clear hb5 hk5 d0 hFnd
        go_wp2_with fail
        refine (HLe.out _ Hb5.out).mono ?_
        rintro e w6 ⟨rfl, hb6⟩
        have Hb6 := Lib.hid (then_bel Hb5.out hb6)
        have hk6 := (hb6.block _ (lt_of_block Hk5.out)).trans Hk5.out
        have hgw6 : w.heap.size < w6.heap.size := lt_of_block hk6
        have Hk6 := Lib.hid hk6
        clear hb6 hk6 d5
        obtain ⟨p7, c7, hset6, _⟩ := (HS.out.later Hb6.out).form
        have s6 : w6.cell? ⟨b, 0, none⟩ = some (.slice p7 S.length c7) := cell_in hset6
        have hbw6 : b < w6.heap.size := lt_of_block hset6
        clear hset6
        obtain ⟨lx, hlx⟩ : ∃ lx, (lettK S x.letter).isSome = lx := ⟨_, rfl⟩
        rw [hlx]
        have Hlx := Lib.hid hlx
        clear hlx
        cases is with
        | true =>
          have he : Hid (addE S x = 51) := Lib.hid (by
            obtain ⟨y, _, hf⟩ := Hff.out.1 rfl
            rw [he3.out, hf]; rfl)
          go_wp2_with fail
          go_ret
          refine ⟨by rw [he.out]; rfl, Hne.out _ ?_ (by rw [he.out]; decide)⟩
          repeat (first | exact Hb6.out | refine Below.setCell ?_ (by simp only; omega) _ | refine Below.alloc ?_ (by omega) _)
        | false =>
          have Hnone := Lib.hid (Hff.out.2 rfl)
          cases lx with
          | true =>
            have he : Hid (addE S x = 52) := Lib.hid (by rw [he3.out, Hnone.out, Hlx.out]; rfl)
            go_wp2_with fail
            go_ret
            refine ⟨by rw [he.out]; rfl, Hne.out _ ?_ (by rw [he.out]; decide)⟩
            repeat (first | exact Hb6.out | refine Below.setCell ?_ (by simp only; omega) _ | refine Below.alloc ?_ (by omega) _)
          | false =>
            by_cases hlen : S.length = 64
            · have he : Hid (addE S x = 54) := Lib.hid (by rw [he3.out, Hnone.out, Hlx.out, if_pos hlen]; rfl)
              have q1 : ((S.length : Int) == 64) = true := by rw [hlen]; rfl
              clear hlen
              go_wp2_with fail
              go_ret
              refine ⟨by rw [he.out]; rfl, Hne.out _ ?_ (by rw [he.out]; decide)⟩
              repeat (first | exact Hb6.out | refine Below.setCell ?_ (by simp only; omega) _ | refine Below.alloc ?_ (by omega) _)
            · have he : Hid (addE S x = 0) := Lib.hid (by rw [he3.out, Hnone.out, Hlx.out, if_neg hlen]; rfl)
              have q1 : ((S.length : Int) == 64) = false := by simp; omega
              have Hlen := Lib.hid hlen
              clear hlen
              go_upto_region 14 with fail
              refine go_name (fun w7 hw7 => ?_)
              have hb7 : Below w6.heap.size w6 w7 := by
                rw [hw7]
                repeat (first | exact Below.refl _ _ | refine Below.setCell ?_ (by simp only; omega) _ | refine Below.alloc ?_ (by simp) _)
              clear hw7 s6
              have Hb7 := Lib.hid (then_bel Hb6.out hb7)
              have hk7 := (hb7.block _ (lt_of_block Hk6.out)).trans Hk6.out
              obtain ⟨_, _, _, _, v7, hv7, hB7⟩ := HS.out.later Hb7.out
              obtain ⟨q7, r7, rfl⟩ := hB7.form
              have s7 : w7.cell? ⟨b, 0, none⟩ = some (.slice q7 S.length r7) := cell_in hv7
              have hbw7 : b < w7.heap.size := lt_of_block hv7
              have m0 : w7.cell? ⟨w.heap.size, 0, none⟩ = some (.string nm) := cell_in hk7
              have m1 : w7.cell? ⟨w.heap.size, 1, none⟩ = some (.int .i64 x.kind) := cell_in hk7
              have m2 : w7.cell? ⟨w.heap.size, 2, none⟩ = some (.string df) := cell_in hk7
              have m3 : w7.cell? ⟨w.heap.size, 3, none⟩ = some (.int .i64 x.least) := cell_in hk7
              have m4 : w7.cell? ⟨w.heap.size, 4, none⟩ = some (.int .i64 x.most) := cell_in hk7
              have m5 : w7.cell? ⟨w.heap.size, 5, none⟩ = some (.string lt) := cell_in hk7
              have hgw7 : w.heap.size < w7.heap.size := lt_of_block hk7
              have HIns : Hid (∀ W, Below w7.heap.size w7 W → W.heap[w7.heap.size]? = some (.cells #[.string nm, .int .i64 x.kind, .string df, .int .i64 x.least, .int .i64 x.most, .string lt] 62 (0, 0)) →
                  Calls Tryz.prog 73 #[.slice q7 S.length r7, .int .i64 (k : Nat), .slice (some ⟨w7.heap.size, 0, none⟩) 1 1] W fun e w' => ∃ v', e = .returned v' ∧ ((∃ pp nn cc, v' = .slice pp nn cc) ∧ SetK M (w'.setCell ⟨b, 0, none⟩ v') b (insK S x) ∧ w'.heap[b]? = some (.cells #[.slice q7 S.length r7] 85 (0, 0)) ∧ Below M w w')) := Lib.hid fun W hW hlit => by
                have hSW := HS.out.later (then_bel Hb7.out hW)
                have hvW := (hW.block _ (lt_of_block hv7)).trans hv7
                have hBW := hB7.later hW
                have hMW : M ≤ W.heap.size := by have := hW.size; have := HMw.out; omega
                have hkl : k ≤ S.length := by have := HFnd.out.1; rwa [List.length_map] at this
                rw [Hnm.out, Hdf.out, Hlt.out] at hlit
                refine (insert_any M _ S k hkl x w7.heap.size HS.out.len W hMW hBW hlit (fun q hq => ?_)).mono ?_
                · rcases hB7.2 with ⟨h, _⟩ | ⟨g, c, cs, h, _, _, hb, _⟩
                  · rw [h] at hq; cases hq
                  · rw [h] at hq
                    obtain rfl := Option.some.inj hq
                    have := lt_of_block hb
                    show w7.heap.size ≠ g
                    omega
                · rintro e w' ⟨v', rfl, hB', hg'⟩
                  obtain ⟨h1, h2⟩ := hSW.grown HX.out HFnd.out Hnone.out Hlen.out hvW hBW hB' hg'
                  obtain ⟨pp, cc, rfl⟩ := hB'.form
                  refine ⟨_, rfl, ⟨pp, _, cc, rfl⟩, h1, h2, ?_⟩
                  have hbMW : Below M w W := (then_bel Hb7.out hW).mono HMw.out
                  refine hbMW.trans ⟨hg'.os, hg'.tape, hg'.output, hg'.size, fun j hj => hg'.block j (by omega) fun hh => ?_⟩
                  rcases hBW.2 with ⟨h, _⟩ | ⟨g, c, cs, h, _, hMg, _, _⟩
                  · rw [h] at hh; cases hh
                  · rw [h] at hh
                    have e' : j = g := Option.some.inj hh
                    omega
              clear hb7 hk7 hv7 hB7
              go_region_law
                (first
                  | (refine step_callE (by rfl) 73 _ _ (by rfl) egIns _ (by rfl) _ (HIns.out _ (by first | exact ((Below.refl _ _).alloc (Nat.le_refl _) _).drew | exact (Below.refl _ _).alloc (Nat.le_refl _) _ | exact (Below.refl _ _).drew.alloc (Nat.le_refl _) _) (by exact heap_alloc_new w7 _)) ?_; rintro v' w8 ⟨⟨pp, nn, cc, rfl⟩, hs8, hb8, hbel8⟩; have e8 : w8.cell? ⟨b, 0, none⟩ = some (.slice q7 S.length r7) := cell_in hb8; have f8 : w8.frozen? ⟨b, 0, none⟩ = false := free_in hb8; have l8 : b < w8.heap.size := lt_of_block hb8; have Hs8 := Lib.hid hs8; have Hbel8 := Lib.hid hbel8; clear hs8 hbel8 hb8)
                  | fail)
              all_goals
                go_wp2_with fail
                go_ret
                refine ⟨by rw [he.out]; rfl, ?_, ?_⟩
                · rw [add_yes he.out]; exact Hs8.out
                · exact Hbel8.out.setCell (p := ⟨b, 0, none⟩) HS.out.lo _
end Go.Proofs.YtpfhhaonfbfheaaGreatDoor.ky
