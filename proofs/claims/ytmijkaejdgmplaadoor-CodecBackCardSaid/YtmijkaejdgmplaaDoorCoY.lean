/- tinderboxlaw03.CodecAgain returns true. Conditions: the script lies in memory as its list; the variable errors.errorType holds what the program's text lays. -/
import Derived.Test.YtmijkaejdgmplaaDoorCoQ
namespace Go.Proofs.YtmijkaejdgmplaaDoor.co
open Go.ChangeShapes Go.WideShapes Go.ChangeAt Go.RowKit

/-- A Reader and a Writer of the call's own. -/
def Duo (w0 w : World) (b1 b2 : Nat) (r : Rst) (s : Wst) : Prop :=
  ∃ S1 S2, IsR w b1 r S1 ∧ IsW w b2 s S2 ∧ Apart S1 S2 ∧ (∀ k ∈ S1 ++ S2, w0.heap.size ≤ k) ∧ Below w0.heap.size w0 w
theorem Duo.step1 {w0 w w' : World} {b1 b2 : Nat} {r' : Rst} {s : Wst} {S1 S2 : List Nat} (h2 : IsW w b2 s S2) (a : Apart S1 S2) (hB : ∀ k ∈ S1 ++ S2, w0.heap.size ≤ k) (hb : Below w0.heap.size w0 w) (hm : Moves S1 w w' (IsR w' b1 r')) : Duo w0 w' b1 b2 r' s := by
  obtain ⟨S', h, hu, hS⟩ := hm
  refine ⟨S', S2, h, h2.kept hu a.symm, a.moved h2.lt hS, fun k hk => ?_, hb.trans (hu.below (fun k hk => hB k (by simp [hk])) hb.size)⟩
  rcases List.mem_append.1 hk with hk | hk
  · rcases hS k hk with h | h
    · exact hB k (by simp [h])
    · exact Nat.le_trans hb.size h
  · exact hB k (by simp [hk])
theorem Duo.step2 {w0 w w' : World} {b1 b2 : Nat} {r : Rst} {s' : Wst} {S1 S2 : List Nat} (h1 : IsR w b1 r S1) (a : Apart S1 S2) (hB : ∀ k ∈ S1 ++ S2, w0.heap.size ≤ k) (hb : Below w0.heap.size w0 w) (hm : Moves S2 w w' (IsW w' b2 s')) : Duo w0 w' b1 b2 r s' := by
  obtain ⟨S', h, hu, hS⟩ := hm
  refine ⟨S1, S', h1.kept hu a, h, (a.symm.moved h1.lt hS).symm, fun k hk => ?_, hb.trans (hu.below (fun k hk => hB k (by simp [hk])) hb.size)⟩
  rcases List.mem_append.1 hk with hk | hk
  · exact hB k (by simp [hk])
  · rcases hS k hk with h | h
    · exact hB k (by simp [h])
    · exact Nat.le_trans hb.size h
theorem Duo.below {w0 w w' : World} {b1 b2 : Nat} {r : Rst} {s : Wst} (h : Duo w0 w b1 b2 r s) (hb : Below w.heap.size w w') : Duo w0 w' b1 b2 r s := by
  obtain ⟨S1, S2, h1, h2, a, hB, hb0⟩ := h
  exact ⟨S1, S2, h1.below hb, h2.below hb, a, hB, hb0.trans (hb.mono hb0.size)⟩
theorem Duo.bel {w0 w : World} {b1 b2 : Nat} {r : Rst} {s : Wst} (h : Duo w0 w b1 b2 r s) : Below w0.heap.size w0 w := by
  obtain ⟨S1, S2, h1, h2, a, hB, hb0⟩ := h
  exact hb0
theorem duo_new {w0 w1 w2 : World} {b1 b2 : Nat} {r : Rst} {s : Wst} (e1 : b1 = w0.heap.size) (e2 : b2 = w1.heap.size) (h1 : IsR w1 b1 r [b1]) (hb1 : Below w0.heap.size w0 w1) (h2 : IsW w2 b2 s [b2]) (hb2 : Below w1.heap.size w1 w2) : Duo w0 w2 b1 b2 r s := by
  have l1 := h1.lt b1 (by simp)
  refine ⟨[b1], [b2], h1.below hb2, h2, ?_, ?_, hb1.trans (hb2.mono hb1.size)⟩
  · intro k hk; simp only [List.mem_singleton] at *; omega
  · intro k hk
    have := hb1.size
    simp only [List.cons_append, List.nil_append, List.mem_cons, List.not_mem_nil, or_false] at hk
    omega
theorem cast_take {x : ByteArray} {k : Nat} {l : List UInt8} (h : x.data.toList = l) : (⟨(l.take k).toArray⟩ : ByteArray) = x.extract 0 k := by
  apply ByteArray.ext
  rw [← Array.toList_inj, take_data, h]

set_option maxHeartbeats 8000000 in
set_option maxRecDepth 100000 in
theorem codecAgain_any (x : ByteArray) (hx : x.size ≤ 9223372036854775807) (p : Option Addr) (cap : Nat) (l : List OpD) (w : World) (hl : l.length ≤ 9223372036854775807) (h : Script w p l) (hg : Reg w) :
    Calls Tryd.prog 5 #[.string x, .slice p l.length cap] w fun e w' => e = .returned (.bool true) ∧ Below w.heap.size w w' := by
  have H := Lib.hid h
  have Hg := Lib.hid hg
  clear h hg
  have hsz := sizeV_bd l 0 (by omega) (by omega)
  obtain ⟨hs0, hs1⟩ := hsz
  go_enter Tryd.func5, Tryd.ntmps5
  go_wp2_with fail
  refine (size_any p cap l _ hl H.out).mono ?_
  rintro e w1 ⟨rfl, hb⟩
  have HB1 := Lib.hid hb
  clear hb
  generalize sizeV l 0 = sv at hs0 hs1
  go_wp2_with fail
  refine (add_any (x.size : Int) sv (by omega) (by omega) hs0 (by omega) _).mono ?_
  rintro e w1' ⟨rfl, rfl⟩
  by_cases hbig : addV (x.size : Int) sv > 2147483647
  · go_wp2_with fail
    go_ret
    exact ⟨rfl, HB1.out⟩
  have hx30 : x.size ≤ 2147483647 := by unfold addV at hbig; split at hbig <;> omega
  generalize addV (x.size : Int) sv = av at hbig
  go_wp2_with fail
  refine (awake_any _ (Hg.out.below HB1.out)).mono ?_
  rintro e w2 ⟨rfl, hb⟩
  have HB2 := Lib.hid (HB1.out.trans (hb.mono HB1.out.size))
  clear hb
  go_wp2_with fail
  refine (NewReader_any x _).mono ?_
  rintro e w3 ⟨rfl, hn, hb⟩
  have HN3 := Lib.hid hn
  have HB3 := Lib.hid hb
  clear hn hb
  go_wp2_with fail
  refine (NewWriter_any (x.size : Int) _).mono ?_
  rintro e w4 ⟨rfl, hn, hb⟩
  have HD := Lib.hid (duo_new rfl rfl HN3.out HB3.out hn hb)
  clear hn hb
  rw [Int.toNat_natCast] at HD
  obtain ⟨L, hL⟩ : ∃ L, L = x.data.toList := ⟨_, rfl⟩
  have hLl : L.length = x.size := by rw [hL]; simp
  have HL := Lib.hid hL
  have HLl := Lib.hid hLl
  rw [← hL, ← hLl] at HD
  clear hL hLl
  go_wp2_with fail
  go_loopw [8] (fun i wr => ∃ (k j : Nat), k ≤ l.length ∧ i = .int .i64 (k : Int) ∧ j ≤ x.size ∧ Hid (Duo w2 wr w2.heap.size w3.heap.size ⟨L.drop j, 0⟩ ⟨L.take j, L.length, 0⟩)) (fun i _ => (l.length - intOf i).toNat)
  case atStart => exact ⟨0, 0, by omega, rfl, by omega, HD⟩
  case round =>
    obtain ⟨k, j, hk, rfl, hj, HDr⟩ := hrel
    have HBr := Lib.hid (HB2.out.trans (HDr.out.bel.mono HB2.out.size))
    by_cases hlt : k < l.length
    · have hlt' : (k : Int) < (l.length : Int) := by omega
      obtain ⟨hok, b, off, rfl, hat⟩ := H.out k l[k] (List.getElem?_eq_getElem hlt)
      generalize l[k] = o at *
      have hc0 : wr.cell? ⟨b, off + k * 4, none⟩ = some (.int .i64 o.kind) := (HBr.out.cell (p := ⟨b, off + k * 4, none⟩) hat.lt).trans hat.c0
      have hc2 : wr.cell? ⟨b, off + k * 4 + 2, none⟩ = some (.int .i64 o.n) := (HBr.out.cell (p := ⟨b, off + k * 4 + 2, none⟩) hat.lt).trans hat.c2
      clear hok hat
      obtain ⟨S1, S2, d1, d2, da, dB, db⟩ := HDr.out
      have D1 := Lib.hid d1
      have D2 := Lib.hid d2
      have DA := Lib.hid da
      have DB := Lib.hid dB
      have Db := Lib.hid db
      clear d1 d2 da dB db
      by_cases hkind : o.kind = 2
      · skip
        have hkind' : (o.kind == 2) = true := by rw [hkind]; rfl
        have HR : Hid (agR ⟨L.drop j, 0⟩ o = ((⟨L.drop j, 0⟩ : Rst).text o.n).2) := Lib.hid (if_pos hkind)
        have HW : Hid (agW ⟨L.drop j, 0⟩ ⟨L.take j, L.length, 0⟩ o = (⟨L.take j, L.length, 0⟩ : Wst).text ((⟨L.drop j, 0⟩ : Rst).text o.n).1) := Lib.hid (if_pos hkind)
        clear hkind
        go_wp2_with fail
        refine (RText_any _ o.n _ S1 _ (by simp only [List.length_drop]; have := HLl.out; omega) D1.out).mono ?_
        rintro e w5 ⟨rfl, hM⟩
        have HD5 := Lib.hid (Duo.step1 D2.out DA.out DB.out Db.out hM)
        clear hM
        obtain ⟨T1, T2, d1, d2, da, dB, db⟩ := HD5.out
        have D1T := Lib.hid d1
        have D2T := Lib.hid d2
        have DAT := Lib.hid da
        have DBT := Lib.hid dB
        have DbT := Lib.hid db
        clear d1 d2 da dB db
        have htl := text_len ⟨L.drop j, 0⟩ o.n
        go_wp2_with fail
        refine (Text_any _ _ _ T2 _ (by rw [size_lit]; omega) D2T.out (by show L.length ≤ _; have := HLl.out; omega) (by show (L.take j).length ≤ L.length; rw [List.length_take]; omega) (by rw [size_lit]; show (L.take j).length + 9 + _ ≤ _; rw [List.length_take]; omega)).mono ?_
        rintro e w6 ⟨rfl, hM⟩
        have HD6' := Lib.hid (Duo.step2 D1T.out DAT.out DBT.out DbT.out hM)
        have HD6 : Hid (Duo w2 w6 w2.heap.size w3.heap.size (agR ⟨L.drop j, 0⟩ o) (agW ⟨L.drop j, 0⟩ ⟨L.take j, L.length, 0⟩ o)) := Lib.hid (by rw [HR.out, HW.out]; exact HD6'.out)
        clear hM htl HD6' hc0 hc2
        by_cases herr : (agR ⟨L.drop j, 0⟩ o).err = 0
        · obtain ⟨j', hj', e1, e2⟩ := again_step (l := L) (by rw [HLl.out]; exact hj) o herr
          obtain ⟨q, hq⟩ : ∃ q, q = x.size - j' := ⟨_, rfl⟩
          have hj2 : j' = x.size - q := by rw [HLl.out] at hj'; omega
          have hqx : q ≤ x.size := by omega
          rw [e1, e2] at HD6
          subst hj2
          clear e1 e2 herr HR HW hj' hq
          have Hleft : Hid ((⟨L.drop (x.size - q), 0⟩ : Rst).left = q) := Lib.hid (by unfold Rst.left; rw [if_pos rfl, List.length_drop, HLl.out]; omega)
          obtain ⟨V1, V2, d1, d2, da, dB, db⟩ := HD6.out
          have D1V := Lib.hid d1
          have D2V := Lib.hid d2
          have DAV := Lib.hid da
          have DBV := Lib.hid dB
          have DbV := Lib.hid db
          clear d1 d2 da dB db
          go_wp2_with fail
          refine (RLeft_any _ _ V1 _ D1V.out).mono ?_
          rintro e w7 ⟨rfl, rfl⟩
          rw [Hleft.out]
          go_wp2_with fail
          refine (RDone_any _ _ V1 _ (Hg.out.below (HB2.out.trans (HD6.out.bel.mono HB2.out.size))) D1V.out).mono ?_
          rintro e w8 ⟨rfl, hb⟩
          have HD8 := Lib.hid (HD6.out.below hb)
          clear hb
          obtain ⟨Z1, Z2, d1, d2, da, dB, db⟩ := HD8.out
          have D1Z := Lib.hid d1
          have D2Z := Lib.hid d2
          have DAZ := Lib.hid da
          have DBZ := Lib.hid dB
          have DbZ := Lib.hid db
          clear d1 d2 da dB db
          have hdone := ok_done (L.drop (x.size - q))
          generalize (⟨L.drop (x.size - q), 0⟩ : Rst).done = dn at hdone
          rcases hdone with rfl | rfl
          all_goals
            go_wp2_with fail
            refine (Done_any _ _ Z2 _ (Hg.out.below (HB2.out.trans (HD8.out.bel.mono HB2.out.size))) D2Z.out).mono ?_
            rintro e w9 ⟨rfl, hb⟩
            have HD9 := Lib.hid (HD8.out.below hb)
            clear hb
            rw [show (⟨L.take (x.size - q), L.length, 0⟩ : Wst).done = (L.take (x.size - q), 0) from rfl]
            simp only
            rw [cast_take HL.out.symm]
            go_wp2_with fail
            go_roundw
            case rel => exact ⟨k + 1, x.size - q, by omega, by go_num, by omega, HD9⟩
            case measure => simp [intOf]; omega
        · have hec := again_err (L.drop j) o herr
          have hrl : (agR ⟨L.drop j, 0⟩ o).rest.length ≤ 9223372036854775807 := by
            have := agR_rest ⟨L.drop j, 0⟩ o
            simp only [List.length_drop] at this
            have := HLl.out
            omega
          generalize agW ⟨L.drop j, 0⟩ ⟨L.take j, L.length, 0⟩ o = W' at *
          generalize agR ⟨L.drop j, 0⟩ o = R' at *
          have HE := Lib.hid herr
          have hde := err_done herr
          generalize hrd : R'.done = dn at *
          have Hrd := Lib.hid hrd
          rw [← hde] at hec
          clear herr hde HR HW hrd
          obtain ⟨V1, V2, d1, d2, da, dB, db⟩ := HD6.out
          have D1V := Lib.hid d1
          have D2V := Lib.hid d2
          have DAV := Lib.hid da
          have DBV := Lib.hid dB
          have DbV := Lib.hid db
          clear d1 d2 da dB db
          go_wp2_with fail
          refine (RLeft_any _ _ V1 _ D1V.out).mono ?_
          rintro e w7 ⟨rfl, rfl⟩
          rw [err_left HE.out]
          go_wp2_with fail
          refine (RDone_any _ _ V1 _ (Hg.out.below (HB2.out.trans (HD6.out.bel.mono HB2.out.size))) D1V.out).mono ?_
          rintro e w8 ⟨rfl, hb⟩
          have HD8 := Lib.hid (HD6.out.below hb)
          clear hb
          rw [Hrd.out]
          obtain ⟨Z1, Z2, d1, d2, da, dB, db⟩ := HD8.out
          have D1Z := Lib.hid d1
          have D2Z := Lib.hid d2
          have DAZ := Lib.hid da
          have DBZ := Lib.hid dB
          have DbZ := Lib.hid db
          clear d1 d2 da dB db
          rcases hec with rfl | rfl | rfl
          all_goals
            go_wp2_with fail
            refine (RNum_any _ _ Z1 _ hrl D1Z.out).mono ?_
            rintro e w9 ⟨rfl, hM⟩
            rw [err_num HE.out] at hM ⊢
            have HD9 := Lib.hid (Duo.step1 D2Z.out DAZ.out DBZ.out DbZ.out hM)
            clear hM
            obtain ⟨Y1, Y2, d1, d2, da, dB, db⟩ := HD9.out
            have D1Y := Lib.hid d1
            have D2Y := Lib.hid d2
            have DAY := Lib.hid da
            have DBY := Lib.hid dB
            have DbY := Lib.hid db
            clear d1 d2 da dB db
            go_wp2_with fail
            refine (RText_any _ 9 _ Y1 _ hrl D1Y.out).mono ?_
            rintro e w10 ⟨rfl, hM⟩
            rw [err_text HE.out] at hM ⊢
            have HD10 := Lib.hid (Duo.step1 D2Y.out DAY.out DBY.out DbY.out hM)
            clear hM
            obtain ⟨X1, X2, d1, d2, da, dB, db⟩ := HD10.out
            have D1X := Lib.hid d1
            have D2X := Lib.hid d2
            have DAX := Lib.hid da
            have DBX := Lib.hid dB
            have DbX := Lib.hid db
            clear d1 d2 da dB db
            go_wp2_with fail
            refine (RDone_any _ _ X1 _ (Hg.out.below (HB2.out.trans (HD10.out.bel.mono HB2.out.size))) D1X.out).mono ?_
            rintro e w11 ⟨rfl, hb⟩
            have HD11 := Lib.hid (HD10.out.below hb)
            clear hb
            rw [Hrd.out]
            go_wp2_with fail
            go_ret
            exact ⟨rfl, HB2.out.trans (HD11.out.bel.mono HB2.out.size)⟩
      · skip
        have hkind' : (o.kind == 2) = false := by simpa using hkind
        have HR : Hid (agR ⟨L.drop j, 0⟩ o = (⟨L.drop j, 0⟩ : Rst).num.2) := Lib.hid (if_neg hkind)
        have HW : Hid (agW ⟨L.drop j, 0⟩ ⟨L.take j, L.length, 0⟩ o = (⟨L.take j, L.length, 0⟩ : Wst).num ((⟨L.drop j, 0⟩ : Rst).num.1 : Nat)) := Lib.hid (if_neg hkind)
        clear hkind
        go_wp2_with fail
        refine (RNum_any _ _ S1 _ (by simp only [List.length_drop]; have := HLl.out; omega) D1.out).mono ?_
        rintro e w5 ⟨rfl, hM⟩
        have HD5 := Lib.hid (Duo.step1 D2.out DA.out DB.out Db.out hM)
        clear hM
        obtain ⟨T1, T2, d1, d2, da, dB, db⟩ := HD5.out
        have D1T := Lib.hid d1
        have D2T := Lib.hid d2
        have DAT := Lib.hid da
        have DBT := Lib.hid dB
        have DbT := Lib.hid db
        clear d1 d2 da dB db
        have htl := num_len ⟨L.drop j, 0⟩
        go_wp2_with fail
        refine (Num_any _ _ (by rw [Int.toNat_natCast]; omega) _ T2 _ D2T.out (by show L.length ≤ _; have := HLl.out; omega) (by show (L.take j).length ≤ L.length; rw [List.length_take]; omega) (by show (L.take j).length + 9 ≤ _; rw [List.length_take]; omega)).mono ?_
        rintro e w6 ⟨rfl, hM⟩
        have HD6' := Lib.hid (Duo.step2 D1T.out DAT.out DBT.out DbT.out hM)
        have HD6 : Hid (Duo w2 w6 w2.heap.size w3.heap.size (agR ⟨L.drop j, 0⟩ o) (agW ⟨L.drop j, 0⟩ ⟨L.take j, L.length, 0⟩ o)) := Lib.hid (by rw [HR.out, HW.out]; exact HD6'.out)
        clear hM htl HD6' hc0 hc2
        by_cases herr : (agR ⟨L.drop j, 0⟩ o).err = 0
        · obtain ⟨j', hj', e1, e2⟩ := again_step (l := L) (by rw [HLl.out]; exact hj) o herr
          obtain ⟨q, hq⟩ : ∃ q, q = x.size - j' := ⟨_, rfl⟩
          have hj2 : j' = x.size - q := by rw [HLl.out] at hj'; omega
          have hqx : q ≤ x.size := by omega
          rw [e1, e2] at HD6
          subst hj2
          clear e1 e2 herr HR HW hj' hq
          have Hleft : Hid ((⟨L.drop (x.size - q), 0⟩ : Rst).left = q) := Lib.hid (by unfold Rst.left; rw [if_pos rfl, List.length_drop, HLl.out]; omega)
          obtain ⟨V1, V2, d1, d2, da, dB, db⟩ := HD6.out
          have D1V := Lib.hid d1
          have D2V := Lib.hid d2
          have DAV := Lib.hid da
          have DBV := Lib.hid dB
          have DbV := Lib.hid db
          clear d1 d2 da dB db
          go_wp2_with fail
          refine (RLeft_any _ _ V1 _ D1V.out).mono ?_
          rintro e w7 ⟨rfl, rfl⟩
          rw [Hleft.out]
          go_wp2_with fail
          refine (RDone_any _ _ V1 _ (Hg.out.below (HB2.out.trans (HD6.out.bel.mono HB2.out.size))) D1V.out).mono ?_
          rintro e w8 ⟨rfl, hb⟩
          have HD8 := Lib.hid (HD6.out.below hb)
          clear hb
          obtain ⟨Z1, Z2, d1, d2, da, dB, db⟩ := HD8.out
          have D1Z := Lib.hid d1
          have D2Z := Lib.hid d2
          have DAZ := Lib.hid da
          have DBZ := Lib.hid dB
          have DbZ := Lib.hid db
          clear d1 d2 da dB db
          have hdone := ok_done (L.drop (x.size - q))
          generalize (⟨L.drop (x.size - q), 0⟩ : Rst).done = dn at hdone
          rcases hdone with rfl | rfl
          all_goals
            go_wp2_with fail
            refine (Done_any _ _ Z2 _ (Hg.out.below (HB2.out.trans (HD8.out.bel.mono HB2.out.size))) D2Z.out).mono ?_
            rintro e w9 ⟨rfl, hb⟩
            have HD9 := Lib.hid (HD8.out.below hb)
            clear hb
            rw [show (⟨L.take (x.size - q), L.length, 0⟩ : Wst).done = (L.take (x.size - q), 0) from rfl]
            simp only
            rw [cast_take HL.out.symm]
            go_wp2_with fail
            go_roundw
            case rel => exact ⟨k + 1, x.size - q, by omega, by go_num, by omega, HD9⟩
            case measure => simp [intOf]; omega
        · have hec := again_err (L.drop j) o herr
          have hrl : (agR ⟨L.drop j, 0⟩ o).rest.length ≤ 9223372036854775807 := by
            have := agR_rest ⟨L.drop j, 0⟩ o
            simp only [List.length_drop] at this
            have := HLl.out
            omega
          generalize agW ⟨L.drop j, 0⟩ ⟨L.take j, L.length, 0⟩ o = W' at *
          generalize agR ⟨L.drop j, 0⟩ o = R' at *
          have HE := Lib.hid herr
          have hde := err_done herr
          generalize hrd : R'.done = dn at *
          have Hrd := Lib.hid hrd
          rw [← hde] at hec
          clear herr hde HR HW hrd
          obtain ⟨V1, V2, d1, d2, da, dB, db⟩ := HD6.out
          have D1V := Lib.hid d1
          have D2V := Lib.hid d2
          have DAV := Lib.hid da
          have DBV := Lib.hid dB
          have DbV := Lib.hid db
          clear d1 d2 da dB db
          go_wp2_with fail
          refine (RLeft_any _ _ V1 _ D1V.out).mono ?_
          rintro e w7 ⟨rfl, rfl⟩
          rw [err_left HE.out]
          go_wp2_with fail
          refine (RDone_any _ _ V1 _ (Hg.out.below (HB2.out.trans (HD6.out.bel.mono HB2.out.size))) D1V.out).mono ?_
          rintro e w8 ⟨rfl, hb⟩
          have HD8 := Lib.hid (HD6.out.below hb)
          clear hb
          rw [Hrd.out]
          obtain ⟨Z1, Z2, d1, d2, da, dB, db⟩ := HD8.out
          have D1Z := Lib.hid d1
          have D2Z := Lib.hid d2
          have DAZ := Lib.hid da
          have DBZ := Lib.hid dB
          have DbZ := Lib.hid db
          clear d1 d2 da dB db
          rcases hec with rfl | rfl | rfl
          all_goals
            go_wp2_with fail
            refine (RNum_any _ _ Z1 _ hrl D1Z.out).mono ?_
            rintro e w9 ⟨rfl, hM⟩
            rw [err_num HE.out] at hM ⊢
            have HD9 := Lib.hid (Duo.step1 D2Z.out DAZ.out DBZ.out DbZ.out hM)
            clear hM
            obtain ⟨Y1, Y2, d1, d2, da, dB, db⟩ := HD9.out
            have D1Y := Lib.hid d1
            have D2Y := Lib.hid d2
            have DAY := Lib.hid da
            have DBY := Lib.hid dB
            have DbY := Lib.hid db
            clear d1 d2 da dB db
            go_wp2_with fail
            refine (RText_any _ 9 _ Y1 _ hrl D1Y.out).mono ?_
            rintro e w10 ⟨rfl, hM⟩
            rw [err_text HE.out] at hM ⊢
            have HD10 := Lib.hid (Duo.step1 D2Y.out DAY.out DBY.out DbY.out hM)
            clear hM
            obtain ⟨X1, X2, d1, d2, da, dB, db⟩ := HD10.out
            have D1X := Lib.hid d1
            have D2X := Lib.hid d2
            have DAX := Lib.hid da
            have DBX := Lib.hid dB
            have DbX := Lib.hid db
            clear d1 d2 da dB db
            go_wp2_with fail
            refine (RDone_any _ _ X1 _ (Hg.out.below (HB2.out.trans (HD10.out.bel.mono HB2.out.size))) D1X.out).mono ?_
            rintro e w11 ⟨rfl, hb⟩
            have HD11 := Lib.hid (HD10.out.below hb)
            clear hb
            rw [Hrd.out]
            go_wp2_with fail
            go_ret
            exact ⟨rfl, HB2.out.trans (HD11.out.bel.mono HB2.out.size)⟩
    · have hd : decide ((k : Int) < (l.length : Int)) = false := by simp; omega
      go_wp2_with fail
      go_ret
      exact ⟨rfl, HBr.out⟩
end Go.Proofs.YtmijkaejdgmplaaDoor.co
