/- The reference's whole and united return the plain functions. Condition: the text is no longer than 2147483647 bytes. -/
import Derived.Test.YtkbamhecbfocbaaGreatDoorVbD
namespace Go.Proofs.YtkbamhecbfocbaaGreatDoor.va
open Go.ChangeShapes Go.WideShapes Go.ChangeAt Go.RowKit gl

set_option maxHeartbeats 1000000 in
set_option maxRecDepth 100000 in
theorem refWhole_any (s : ByteArray) (hs : s.size ≤ 2147483647) (w : World) :
    Calls Tryz.prog 27 #[.string s] w fun e w' => e = .returned (res (parseInt s.data.toList) (.slice none 0 0)) ∧ Below w.heap.size w w' := by
  have hE := parseInt_eq s.data.toList
  by_cases hneg : s.data.toList.head? = some 45
  · simp only [hneg, if_true, true_and] at hE
    have hpos : 0 < s.size := by
      cases hl : s.data.toList with
      | nil => rw [hl] at hneg; cases hneg
      | cons c r =>
        have := congrArg List.length hl
        simp at this
        omega
    have he : s.toList.isEmpty = false := by
      rw [ByteArray.toList_eq]
      cases hl : s.data.toList with
      | nil => rw [hl] at hneg; cases hneg
      | cons => rfl
    obtain ⟨b, hb, hbk, _, _⟩ := byteAt s 0 hpos
    have hb45 : b = 45 := by
      rw [List.head?_eq_getElem?, hb] at hneg
      exact Option.some.inj hneg
    subst hb45
    have hsl : ∀ wx : World, (Instr.slice 9 (.string s) (some (.int .i64 1)) none none).run Tryz.prog wx = .ok (.string (s.extract 1 s.size)) wx := fun wx => by
      rw [run_slice_string_from_if (h := Tryz.underlying9), if_pos (by omega)]
      rfl
    have htl : (s.extract 1 s.size).data.toList = s.data.toList.tail := by rw [drop_ba, List.drop_one]
    have hne : s.extract 1 s.size ≠ s := by
      intro e
      have h1 := congrArg ByteArray.size e
      rw [ByteArray.size_extract] at h1
      omega
    have hne1 : ((s.extract 1 s.size).toList == s.toList) = false := seq_false hne
    have hne2 : ((s.extract 1 s.size).toList != s.toList) = true := by rw [bne, hne1]; rfl
    have hN := fun W => refNumber_any (s.extract 1 s.size) (by rw [ByteArray.size_extract]; omega) W
    rw [htl] at hN
    have HE := Lib.hid hE
    clear hE hneg hb htl hne
    generalize s.extract 1 s.size = t at *
    go_enter Tryz.func27, Tryz.ntmps27
    go_wp2_with fail
    refine (hN _).mono ?_
    rintro e w1 ⟨⟨n, ok, rfl, hok, hn0, hn1⟩, rfl⟩
    cases ok with
    | false =>
      have He : Hid (parseInt s.data.toList = (zero, 40)) := Lib.hid (by rw [HE.out, okNum_f hok])
      clear hok
      go_wp2_with fail
      go_returns
      exact ⟨by rw [He.out]; rfl, by go_grown⟩
    | true =>
      obtain ⟨m, hm, rfl⟩ := okNum_t hok
      have HE2 := Lib.hid (HE.out.trans (by rw [hm]))
      simp only at HE2
      clear hok hm
      by_cases h0 : m = 0
      · have He : Hid (parseInt s.data.toList = (zero, 40)) := Lib.hid (by rw [HE2.out, if_pos h0])
        subst h0
        go_wp2_with fail
        go_returns
        exact ⟨by rw [He.out]; rfl, by go_grown⟩
      · have h0' : ((m : Int) == 0) = false := by simp; omega
        by_cases h62 : 4611686018427387904 < m
        · have He : Hid (parseInt s.data.toList = (zero, 41)) := Lib.hid (by rw [HE2.out, if_neg h0, if_pos h62])
          go_wp2_with fail
          go_returns
          exact ⟨by rw [He.out]; rfl, by go_grown⟩
        · have He : Hid (parseInt s.data.toList = (⟨2, -(m : Int), ByteArray.empty, []⟩, 0)) := Lib.hid (by rw [HE2.out, if_neg h0, if_neg h62])
          go_wp2_with fail
          go_returns
          exact ⟨by rw [He.out]; rfl, by go_grown⟩
  · simp only [hneg, if_false, false_and] at hE
    have htest : s.toList.isEmpty = true ∨ (s.toList.isEmpty = false ∧ ∃ b : UInt8, 0 < s.size ∧ (∀ h' : 0 < s.size, ((s[0]'h').toNat : Int) = (b.toNat : Int)) ∧ ((b.toNat : Int) == 45) = false) := by
      cases hl : s.data.toList with
      | nil => exact .inl (by rw [ByteArray.toList_eq, hl]; rfl)
      | cons c r =>
        have hpos : 0 < s.size := by
          have := congrArg List.length hl
          simp at this
          omega
        obtain ⟨b, hb, hbk, _, _⟩ := byteAt s 0 hpos
        refine .inr ⟨by rw [ByteArray.toList_eq, hl]; rfl, b, hpos, hbk, ?_⟩
        rw [beq_eq_false_iff_ne]
        intro e
        refine hneg ?_
        rw [List.head?_eq_getElem?, hb]
        congr 1
        exact UInt8.toNat_inj.1 (by show b.toNat = 45; omega)
    have hN := fun W => refNumber_any s hs W
    have heq1 : (s.toList == s.toList) = true := seq_true rfl
    have heq2 : (s.toList != s.toList) = false := by rw [bne, heq1]; rfl
    have HE := Lib.hid hE
    clear hE hneg
    rcases htest with he | ⟨he, b, hpos, hbk, hb45⟩
    all_goals
      go_enter Tryz.func27, Tryz.ntmps27
      go_wp2_with fail
      refine (hN _).mono ?_
      rintro e w1 ⟨⟨n, ok, rfl, hok, hn0, hn1⟩, rfl⟩
      cases ok with
      | false =>
        have He : Hid (parseInt s.data.toList = (zero, 40)) := Lib.hid (by rw [HE.out, okNum_f hok])
        clear hok
        go_wp2_with fail
        go_returns
        exact ⟨by rw [He.out]; rfl, by go_grown⟩
      | true =>
        obtain ⟨m, hm, rfl⟩ := okNum_t hok
        have HE2 := Lib.hid (HE.out.trans (by rw [hm]))
        simp only at HE2
        clear hok hm
        by_cases h62 : 4611686018427387904 < m
        · have He : Hid (parseInt s.data.toList = (zero, 41)) := Lib.hid (by rw [HE2.out, if_pos h62])
          by_cases h0 : m = 0
          · omega
          · have h0' : ((m : Int) == 0) = false := by simp; omega
            go_wp2_with fail
            go_returns
            exact ⟨by rw [He.out]; rfl, by go_grown⟩
        · have He : Hid (parseInt s.data.toList = (⟨2, (m : Int), ByteArray.empty, []⟩, 0)) := Lib.hid (by rw [HE2.out, if_neg h62])
          by_cases h0 : m = 0
          · have h0' : ((m : Int) == 0) = true := by simp [h0]
            clear h0
            go_wp2_with fail
            go_returns
            exact ⟨by rw [He.out]; rfl, by go_grown⟩
          · have h0' : ((m : Int) == 0) = false := by simp; omega
            go_wp2_with fail
            go_returns
            exact ⟨by rw [He.out]; rfl, by go_grown⟩

set_option maxHeartbeats 1000000 in
set_option maxRecDepth 100000 in
theorem refUnited_any (k : Int) (hk : k = 3 ∨ k = 4) (s : ByteArray) (hs : s.size ≤ 2147483647) (w : World) :
    Calls Tryz.prog 28 #[.int .i64 k, .string s] w fun e w' => e = .returned (res (parseUnit k s.data.toList) (.slice none 0 0)) ∧ Below w.heap.size w w' := by
  have hdl : digs s.data.toList ≤ s.size := by have := digs_le s.data.toList; simpa using this
  have hM : 0 ≤ most k ∧ most k ≤ 1125899906842624 := by rcases hk with rfl | rfl <;> decide
  have hmo := most_any k hk
  have hsl1 : ∀ wx : World, (Instr.slice 9 (.string s) none (some (.int .i64 ((digs s.data.toList : Nat) : Int))) none).run Tryz.prog wx = .ok (.string (s.extract 0 (digs s.data.toList))) wx := fun wx => by
    rw [run_slice_string_to_if (h := Tryz.underlying9), if_pos (by omega)]
    rfl
  have hsl2 : ∀ wx : World, (Instr.slice 9 (.string s) (some (.int .i64 ((digs s.data.toList : Nat) : Int))) none none).run Tryz.prog wx = .ok (.string (s.extract (digs s.data.toList) s.size)) wx := fun wx => by
    rw [run_slice_string_from_if (h := Tryz.underlying9), if_pos (by omega)]
    rfl
  have hN := fun W => refNumber_any (s.extract 0 (digs s.data.toList)) (by rw [ByteArray.size_extract]; omega) W
  rw [take_ba] at hN
  have hU : ∀ W, Calls Tryz.prog 11 #[.int .i64 k, .string (s.extract (digs s.data.toList) s.size)] W fun e w' => e = .returned (.int .i64 (unit k (s.data.toList.drop (digs s.data.toList)))) ∧ w' = W := fun W => by
    have := refUnit_any k (s.extract (digs s.data.toList) s.size) W
    rwa [drop_ba] at this
  have HE : Hid (parseUnit k s.data.toList = match num (s.data.toList.take (digs s.data.toList)) with
    | none => (zero, 40)
    | some n => if tail k s.data.toList = 0 then (zero, 40) else if most k / tail k s.data.toList < n then (zero, 41) else (⟨k, n * tail k s.data.toList, ByteArray.empty, []⟩, 0)) := Lib.hid rfl
  have htail : (∃ q : Bool, q = true ∧ ((k == 4) = true ∧ (s.toList == [48]) = true) ∧ tail k s.data.toList = 1) ∨ (((k == 4) = false ∨ ((k == 4) = true ∧ (s.toList == [48]) = false)) ∧ tail k s.data.toList = unit k (s.data.toList.drop (digs s.data.toList))) := by
    by_cases h : k = 4 ∧ s.data.toList = [48]
    · exact .inl ⟨true, rfl, ⟨by simp [h.1], seq_lit h.2⟩, by unfold tail; rw [if_pos h]⟩
    · refine .inr ⟨?_, by unfold tail; rw [if_neg h]⟩
      by_cases h4 : k = 4
      · exact .inr ⟨by simp [h4], seq_nlit fun e => h ⟨h4, e⟩⟩
      · exact .inl (by simp [h4])
  have hub := unit_nonneg k (s.data.toList.drop (digs s.data.toList))
  have HD : Hid (∀ j, j ≤ s.size → goodTo isDig s.data.toList j → (∀ b, s.data.toList[j]? = some b → isDig b = false) → digs s.data.toList = j) := Lib.hid (fun j hj hg he => digs_at (fun i b hi hb => hg i b hi hb) (by simpa using hj) he)
  generalize tail k s.data.toList = u at *
  generalize most k = M at *
  obtain ⟨T1, hT1⟩ : ∃ T, num (s.data.toList.take (digs s.data.toList)) = T := ⟨_, rfl⟩
  rw [hT1] at HE
  have HT1 := Lib.hid hT1
  clear hT1
  have Hall := Lib.hid (And.intro hsl1 (And.intro hsl2 (And.intro hN hU)))
  have Htail := Lib.hid htail
  have Hmo := Lib.hid hmo
  have Hdl := Lib.hid hdl
  generalize unit k (s.data.toList.drop (digs s.data.toList)) = u0 at *
  obtain ⟨hM0, hM1⟩ := hM
  obtain ⟨hub0, hub1⟩ := hub
  clear hsl1 hsl2 hN hU htail hmo hdl hk
  go_enter Tryz.func28, Tryz.ntmps28
  go_wp2_with fail
  go_loop [6] (fun i => ∃ j : Nat, j ≤ s.size ∧ i = .int .i64 j ∧ goodTo isDig s.data.toList j) (fun i => s.size - (intOf i).toNat)
  case atStart => exact ⟨0, by omega, rfl, fun j b h => by omega⟩
  case round =>
    obtain ⟨j, hj, rfl, hto⟩ := hrel
    by_cases hmore : ∃ b, s.data.toList[j]? = some b ∧ isDig b = true
    · obtain ⟨b0, hb0', hd⟩ := hmore
      have hlt : j < s.size := by have := gl.lt_of_get hb0'; simpa using this
      obtain ⟨b, hb, hbk, hb0, hb1⟩ := byteAt s j hlt
      obtain rfl : b = b0 := Option.some.inj (hb.symm.trans hb0')
      have hd' : 48 ≤ b.toNat ∧ b.toNat ≤ 57 := of_decide_eq_true hd
      obtain ⟨hd1, hd2⟩ := hd'
      have Hto := Lib.hid (goodTo_succ hto hb hd)
      clear hto hb hb0' hd
      go_wp2_with fail
      go_round
      case rel => exact ⟨j + 1, by omega, by go_num, Hto.out⟩
      case measure => simp [intOf]; omega
    · have hdig := HD.out j hj hto (fun b hb => by
        cases h : isDig b with
        | false => rfl
        | true => exact absurd ⟨b, hb, h⟩ hmore)
      obtain ⟨hsl1, hsl2, hN, hU⟩ := Hall.out
      rw [hdig] at hsl1 hsl2 hN hU
      have hT1 := HT1.out
      rw [hdig] at hT1
      have hcond : (¬ (j : Int) < (s.size : Int)) ∨ (∃ b : UInt8, j < s.size ∧ (∀ h' : j < s.size, ((s[j]'h').toNat : Int) = (b.toNat : Int)) ∧ ((b.toNat : Int) < 48 ∨ (48 ≤ (b.toNat : Int) ∧ 57 < (b.toNat : Int)))) := by
        by_cases hlt : j < s.size
        · obtain ⟨b, hb, hbk, _, _⟩ := byteAt s j hlt
          refine .inr ⟨b, hlt, hbk, ?_⟩
          have : ¬ (48 ≤ b.toNat ∧ b.toNat ≤ 57) := fun h => hmore ⟨b, hb, decide_eq_true h⟩
          omega
        · exact .inl (by omega)
      have hNT : ∀ W, Calls Tryz.prog 52 #[.string (s.extract 0 j)] W fun e w' => (∃ (n : Int) (b : Bool), e = .returned (.tuple #[.int .i64 n, .bool b]) ∧ okNum T1 n b ∧ 0 ≤ n ∧ n ≤ 4611686018427387905) ∧ w' = W := fun W => (hN W).mono fun e w' ⟨⟨n, b, he, hok, h1, h2⟩, hw⟩ => ⟨⟨n, b, he, by rw [hT1] at hok; exact hok, h1, h2⟩, hw⟩
      have HNT := Lib.hid hNT
      have HU := Lib.hid hU
      clear hN hU hNT hto hmore hdig HD hT1
      generalize s.extract 0 j = t1 at *
      generalize s.extract j s.size = t2 at *
      rcases hcond with hc0 | ⟨b, hlt, hbk, hc1 | ⟨hc1, hc2⟩⟩
      · rcases Htail.out with ⟨_, _, ⟨k4, s48⟩, hu⟩ | ⟨k4 | ⟨k4, s48⟩, hu⟩
        · rw [hu] at HE
          clear Htail hu
          go_wp2_with fail
          refine (HNT.out _).mono ?_
          rintro e w1 ⟨⟨n, ok, rfl, hok, hn0, hn1⟩, rfl⟩
          go_wp2_with fail
          refine (HU.out _).mono ?_
          rintro e w2 ⟨rfl, rfl⟩
          cases ok with
          | false =>
            have He : Hid (parseUnit k s.data.toList = (zero, 40)) := Lib.hid (by rw [HE.out, okNum_f hok])
            clear hok
            go_wp2_with fail
            go_returns
            exact ⟨by rw [He.out]; rfl, by go_grown⟩
          | true =>
            obtain ⟨m, hm, rfl⟩ := okNum_t hok
            have HE2 := Lib.hid (HE.out.trans (by rw [hm]))
            simp only at HE2
            clear hok hm
            have hq1 : M.tdiv 1 = M := by rw [tdiv_ediv hM0, Int.ediv_one]
            by_cases hgt : M < m
            · have He : Hid (parseUnit k s.data.toList = (zero, 41)) := Lib.hid (by rw [HE2.out, if_neg (by decide), Int.ediv_one, if_pos hgt])
              go_wp2_with fail
              refine (Hmo.out _).mono ?_
              rintro e w3 ⟨rfl, rfl⟩
              go_wp2_with fail
              go_returns
              exact ⟨by rw [He.out]; rfl, by go_grown⟩
            · have He : Hid (parseUnit k s.data.toList = (⟨k, (m : Int) * 1, ByteArray.empty, []⟩, 0)) := Lib.hid (by rw [HE2.out, if_neg (by decide), Int.ediv_one, if_neg hgt])
              rw [Int.mul_one] at He
              go_wp2_with fail
              refine (Hmo.out _).mono ?_
              rintro e w3 ⟨rfl, rfl⟩
              go_wp2_with fail
              go_returns
              exact ⟨by rw [He.out]; rfl, by go_grown⟩
        · rw [hu] at HE
          clear Htail hu
          go_wp2_with fail
          refine (HNT.out _).mono ?_
          rintro e w1 ⟨⟨n, ok, rfl, hok, hn0, hn1⟩, rfl⟩
          go_wp2_with fail
          refine (HU.out _).mono ?_
          rintro e w2 ⟨rfl, rfl⟩
          cases ok with
          | false =>
            have He : Hid (parseUnit k s.data.toList = (zero, 40)) := Lib.hid (by rw [HE.out, okNum_f hok])
            clear hok
            go_wp2_with fail
            go_returns
            exact ⟨by rw [He.out]; rfl, by go_grown⟩
          | true =>
            obtain ⟨m, hm, rfl⟩ := okNum_t hok
            have HE2 := Lib.hid (HE.out.trans (by rw [hm]))
            simp only at HE2
            clear hok hm
            by_cases h0 : u0 = 0
            · have He : Hid (parseUnit k s.data.toList = (zero, 40)) := Lib.hid (by rw [HE2.out, if_pos h0])
              subst h0
              go_wp2_with fail
              go_returns
              exact ⟨by rw [He.out]; rfl, by go_grown⟩
            · have h0' : (u0 == 0) = false := by simp [h0]
              have hq : M.tdiv u0 = M / u0 := tdiv_ediv hM0
              have hqm : 0 ≤ M / u0 ∧ M / u0 ≤ M := ⟨Int.ediv_nonneg hM0 hub0, by
                have := Int.mul_le_mul_of_nonneg_left (show (1 : Int) ≤ u0 by omega) (Int.ediv_nonneg hM0 hub0)
                have := Int.ediv_mul_le M (b := u0) h0
                omega⟩
              have Hmul : Hid ((m : Int) ≤ M / u0 → 0 ≤ (m : Int) * u0 ∧ (m : Int) * u0 ≤ M) := Lib.hid (fun h => ⟨Int.mul_nonneg (by omega) hub0, by
                have h2 := Int.mul_le_mul_of_nonneg_right h hub0
                have h3 := Int.ediv_mul_le M (b := u0) h0
                omega⟩)
              generalize M / u0 = q at *
              obtain ⟨hq0, hqM⟩ := hqm
              have hwq : IntKind.i64.wrap q = q := by rw [IntKind.wrap_i64]; omega
              by_cases hgt : q < m
              · have He : Hid (parseUnit k s.data.toList = (zero, 41)) := Lib.hid (by rw [HE2.out, if_neg h0, if_pos hgt])
                go_wp2_with fail
                refine (Hmo.out _).mono ?_
                rintro e w3 ⟨rfl, rfl⟩
                go_wp2_with fail
                go_returns
                exact ⟨by rw [He.out]; rfl, by go_grown⟩
              · have He : Hid (parseUnit k s.data.toList = (⟨k, m * u0, ByteArray.empty, []⟩, 0)) := Lib.hid (by rw [HE2.out, if_neg h0, if_neg hgt])
                obtain ⟨hp0, hp1⟩ := Hmul.out (by omega)
                go_wp2_with fail
                refine (Hmo.out _).mono ?_
                rintro e w3 ⟨rfl, rfl⟩
                go_wp2_with fail
                go_returns
                exact ⟨by rw [He.out]; rfl, by go_grown⟩
        · rw [hu] at HE
          clear Htail hu
          go_wp2_with fail
          refine (HNT.out _).mono ?_
          rintro e w1 ⟨⟨n, ok, rfl, hok, hn0, hn1⟩, rfl⟩
          go_wp2_with fail
          refine (HU.out _).mono ?_
          rintro e w2 ⟨rfl, rfl⟩
          cases ok with
          | false =>
            have He : Hid (parseUnit k s.data.toList = (zero, 40)) := Lib.hid (by rw [HE.out, okNum_f hok])
            clear hok
            go_wp2_with fail
            go_returns
            exact ⟨by rw [He.out]; rfl, by go_grown⟩
          | true =>
            obtain ⟨m, hm, rfl⟩ := okNum_t hok
            have HE2 := Lib.hid (HE.out.trans (by rw [hm]))
            simp only at HE2
            clear hok hm
            by_cases h0 : u0 = 0
            · have He : Hid (parseUnit k s.data.toList = (zero, 40)) := Lib.hid (by rw [HE2.out, if_pos h0])
              subst h0
              go_wp2_with fail
              go_returns
              exact ⟨by rw [He.out]; rfl, by go_grown⟩
            · have h0' : (u0 == 0) = false := by simp [h0]
              have hq : M.tdiv u0 = M / u0 := tdiv_ediv hM0
              have hqm : 0 ≤ M / u0 ∧ M / u0 ≤ M := ⟨Int.ediv_nonneg hM0 hub0, by
                have := Int.mul_le_mul_of_nonneg_left (show (1 : Int) ≤ u0 by omega) (Int.ediv_nonneg hM0 hub0)
                have := Int.ediv_mul_le M (b := u0) h0
                omega⟩
              have Hmul : Hid ((m : Int) ≤ M / u0 → 0 ≤ (m : Int) * u0 ∧ (m : Int) * u0 ≤ M) := Lib.hid (fun h => ⟨Int.mul_nonneg (by omega) hub0, by
                have h2 := Int.mul_le_mul_of_nonneg_right h hub0
                have h3 := Int.ediv_mul_le M (b := u0) h0
                omega⟩)
              generalize M / u0 = q at *
              obtain ⟨hq0, hqM⟩ := hqm
              have hwq : IntKind.i64.wrap q = q := by rw [IntKind.wrap_i64]; omega
              by_cases hgt : q < m
              · have He : Hid (parseUnit k s.data.toList = (zero, 41)) := Lib.hid (by rw [HE2.out, if_neg h0, if_pos hgt])
                go_wp2_with fail
                refine (Hmo.out _).mono ?_
                rintro e w3 ⟨rfl, rfl⟩
                go_wp2_with fail
                go_returns
                exact ⟨by rw [He.out]; rfl, by go_grown⟩
              · have He : Hid (parseUnit k s.data.toList = (⟨k, m * u0, ByteArray.empty, []⟩, 0)) := Lib.hid (by rw [HE2.out, if_neg h0, if_neg hgt])
                obtain ⟨hp0, hp1⟩ := Hmul.out (by omega)
                go_wp2_with fail
                refine (Hmo.out _).mono ?_
                rintro e w3 ⟨rfl, rfl⟩
                go_wp2_with fail
                go_returns
                exact ⟨by rw [He.out]; rfl, by go_grown⟩
      · rcases Htail.out with ⟨_, _, ⟨k4, s48⟩, hu⟩ | ⟨k4 | ⟨k4, s48⟩, hu⟩
        · rw [hu] at HE
          clear Htail hu
          go_wp2_with fail
          refine (HNT.out _).mono ?_
          rintro e w1 ⟨⟨n, ok, rfl, hok, hn0, hn1⟩, rfl⟩
          go_wp2_with fail
          refine (HU.out _).mono ?_
          rintro e w2 ⟨rfl, rfl⟩
          cases ok with
          | false =>
            have He : Hid (parseUnit k s.data.toList = (zero, 40)) := Lib.hid (by rw [HE.out, okNum_f hok])
            clear hok
            go_wp2_with fail
            go_returns
            exact ⟨by rw [He.out]; rfl, by go_grown⟩
          | true =>
            obtain ⟨m, hm, rfl⟩ := okNum_t hok
            have HE2 := Lib.hid (HE.out.trans (by rw [hm]))
            simp only at HE2
            clear hok hm
            have hq1 : M.tdiv 1 = M := by rw [tdiv_ediv hM0, Int.ediv_one]
            by_cases hgt : M < m
            · have He : Hid (parseUnit k s.data.toList = (zero, 41)) := Lib.hid (by rw [HE2.out, if_neg (by decide), Int.ediv_one, if_pos hgt])
              go_wp2_with fail
              refine (Hmo.out _).mono ?_
              rintro e w3 ⟨rfl, rfl⟩
              go_wp2_with fail
              go_returns
              exact ⟨by rw [He.out]; rfl, by go_grown⟩
            · have He : Hid (parseUnit k s.data.toList = (⟨k, (m : Int) * 1, ByteArray.empty, []⟩, 0)) := Lib.hid (by rw [HE2.out, if_neg (by decide), Int.ediv_one, if_neg hgt])
              rw [Int.mul_one] at He
              go_wp2_with fail
              refine (Hmo.out _).mono ?_
              rintro e w3 ⟨rfl, rfl⟩
              go_wp2_with fail
              go_returns
              exact ⟨by rw [He.out]; rfl, by go_grown⟩
        · rw [hu] at HE
          clear Htail hu
          go_wp2_with fail
          refine (HNT.out _).mono ?_
          rintro e w1 ⟨⟨n, ok, rfl, hok, hn0, hn1⟩, rfl⟩
          go_wp2_with fail
          refine (HU.out _).mono ?_
          rintro e w2 ⟨rfl, rfl⟩
          cases ok with
          | false =>
            have He : Hid (parseUnit k s.data.toList = (zero, 40)) := Lib.hid (by rw [HE.out, okNum_f hok])
            clear hok
            go_wp2_with fail
            go_returns
            exact ⟨by rw [He.out]; rfl, by go_grown⟩
          | true =>
            obtain ⟨m, hm, rfl⟩ := okNum_t hok
            have HE2 := Lib.hid (HE.out.trans (by rw [hm]))
            simp only at HE2
            clear hok hm
            by_cases h0 : u0 = 0
            · have He : Hid (parseUnit k s.data.toList = (zero, 40)) := Lib.hid (by rw [HE2.out, if_pos h0])
              subst h0
              go_wp2_with fail
              go_returns
              exact ⟨by rw [He.out]; rfl, by go_grown⟩
            · have h0' : (u0 == 0) = false := by simp [h0]
              have hq : M.tdiv u0 = M / u0 := tdiv_ediv hM0
              have hqm : 0 ≤ M / u0 ∧ M / u0 ≤ M := ⟨Int.ediv_nonneg hM0 hub0, by
                have := Int.mul_le_mul_of_nonneg_left (show (1 : Int) ≤ u0 by omega) (Int.ediv_nonneg hM0 hub0)
                have := Int.ediv_mul_le M (b := u0) h0
                omega⟩
              have Hmul : Hid ((m : Int) ≤ M / u0 → 0 ≤ (m : Int) * u0 ∧ (m : Int) * u0 ≤ M) := Lib.hid (fun h => ⟨Int.mul_nonneg (by omega) hub0, by
                have h2 := Int.mul_le_mul_of_nonneg_right h hub0
                have h3 := Int.ediv_mul_le M (b := u0) h0
                omega⟩)
              generalize M / u0 = q at *
              obtain ⟨hq0, hqM⟩ := hqm
              have hwq : IntKind.i64.wrap q = q := by rw [IntKind.wrap_i64]; omega
              by_cases hgt : q < m
              · have He : Hid (parseUnit k s.data.toList = (zero, 41)) := Lib.hid (by rw [HE2.out, if_neg h0, if_pos hgt])
                go_wp2_with fail
                refine (Hmo.out _).mono ?_
                rintro e w3 ⟨rfl, rfl⟩
                go_wp2_with fail
                go_returns
                exact ⟨by rw [He.out]; rfl, by go_grown⟩
              · have He : Hid (parseUnit k s.data.toList = (⟨k, m * u0, ByteArray.empty, []⟩, 0)) := Lib.hid (by rw [HE2.out, if_neg h0, if_neg hgt])
                obtain ⟨hp0, hp1⟩ := Hmul.out (by omega)
                go_wp2_with fail
                refine (Hmo.out _).mono ?_
                rintro e w3 ⟨rfl, rfl⟩
                go_wp2_with fail
                go_returns
                exact ⟨by rw [He.out]; rfl, by go_grown⟩
        · rw [hu] at HE
          clear Htail hu
          go_wp2_with fail
          refine (HNT.out _).mono ?_
          rintro e w1 ⟨⟨n, ok, rfl, hok, hn0, hn1⟩, rfl⟩
          go_wp2_with fail
          refine (HU.out _).mono ?_
          rintro e w2 ⟨rfl, rfl⟩
          cases ok with
          | false =>
            have He : Hid (parseUnit k s.data.toList = (zero, 40)) := Lib.hid (by rw [HE.out, okNum_f hok])
            clear hok
            go_wp2_with fail
            go_returns
            exact ⟨by rw [He.out]; rfl, by go_grown⟩
          | true =>
            obtain ⟨m, hm, rfl⟩ := okNum_t hok
            have HE2 := Lib.hid (HE.out.trans (by rw [hm]))
            simp only at HE2
            clear hok hm
            by_cases h0 : u0 = 0
            · have He : Hid (parseUnit k s.data.toList = (zero, 40)) := Lib.hid (by rw [HE2.out, if_pos h0])
              subst h0
              go_wp2_with fail
              go_returns
              exact ⟨by rw [He.out]; rfl, by go_grown⟩
            · have h0' : (u0 == 0) = false := by simp [h0]
              have hq : M.tdiv u0 = M / u0 := tdiv_ediv hM0
              have hqm : 0 ≤ M / u0 ∧ M / u0 ≤ M := ⟨Int.ediv_nonneg hM0 hub0, by
                have := Int.mul_le_mul_of_nonneg_left (show (1 : Int) ≤ u0 by omega) (Int.ediv_nonneg hM0 hub0)
                have := Int.ediv_mul_le M (b := u0) h0
                omega⟩
              have Hmul : Hid ((m : Int) ≤ M / u0 → 0 ≤ (m : Int) * u0 ∧ (m : Int) * u0 ≤ M) := Lib.hid (fun h => ⟨Int.mul_nonneg (by omega) hub0, by
                have h2 := Int.mul_le_mul_of_nonneg_right h hub0
                have h3 := Int.ediv_mul_le M (b := u0) h0
                omega⟩)
              generalize M / u0 = q at *
              obtain ⟨hq0, hqM⟩ := hqm
              have hwq : IntKind.i64.wrap q = q := by rw [IntKind.wrap_i64]; omega
              by_cases hgt : q < m
              · have He : Hid (parseUnit k s.data.toList = (zero, 41)) := Lib.hid (by rw [HE2.out, if_neg h0, if_pos hgt])
                go_wp2_with fail
                refine (Hmo.out _).mono ?_
                rintro e w3 ⟨rfl, rfl⟩
                go_wp2_with fail
                go_returns
                exact ⟨by rw [He.out]; rfl, by go_grown⟩
              · have He : Hid (parseUnit k s.data.toList = (⟨k, m * u0, ByteArray.empty, []⟩, 0)) := Lib.hid (by rw [HE2.out, if_neg h0, if_neg hgt])
                obtain ⟨hp0, hp1⟩ := Hmul.out (by omega)
                go_wp2_with fail
                refine (Hmo.out _).mono ?_
                rintro e w3 ⟨rfl, rfl⟩
                go_wp2_with fail
                go_returns
                exact ⟨by rw [He.out]; rfl, by go_grown⟩
      · rcases Htail.out with ⟨_, _, ⟨k4, s48⟩, hu⟩ | ⟨k4 | ⟨k4, s48⟩, hu⟩
        · rw [hu] at HE
          clear Htail hu
          go_wp2_with fail
          refine (HNT.out _).mono ?_
          rintro e w1 ⟨⟨n, ok, rfl, hok, hn0, hn1⟩, rfl⟩
          go_wp2_with fail
          refine (HU.out _).mono ?_
          rintro e w2 ⟨rfl, rfl⟩
          cases ok with
          | false =>
            have He : Hid (parseUnit k s.data.toList = (zero, 40)) := Lib.hid (by rw [HE.out, okNum_f hok])
            clear hok
            go_wp2_with fail
            go_returns
            exact ⟨by rw [He.out]; rfl, by go_grown⟩
          | true =>
            obtain ⟨m, hm, rfl⟩ := okNum_t hok
            have HE2 := Lib.hid (HE.out.trans (by rw [hm]))
            simp only at HE2
            clear hok hm
            have hq1 : M.tdiv 1 = M := by rw [tdiv_ediv hM0, Int.ediv_one]
            by_cases hgt : M < m
            · have He : Hid (parseUnit k s.data.toList = (zero, 41)) := Lib.hid (by rw [HE2.out, if_neg (by decide), Int.ediv_one, if_pos hgt])
              go_wp2_with fail
              refine (Hmo.out _).mono ?_
              rintro e w3 ⟨rfl, rfl⟩
              go_wp2_with fail
              go_returns
              exact ⟨by rw [He.out]; rfl, by go_grown⟩
            · have He : Hid (parseUnit k s.data.toList = (⟨k, (m : Int) * 1, ByteArray.empty, []⟩, 0)) := Lib.hid (by rw [HE2.out, if_neg (by decide), Int.ediv_one, if_neg hgt])
              rw [Int.mul_one] at He
              go_wp2_with fail
              refine (Hmo.out _).mono ?_
              rintro e w3 ⟨rfl, rfl⟩
              go_wp2_with fail
              go_returns
              exact ⟨by rw [He.out]; rfl, by go_grown⟩
        · rw [hu] at HE
          clear Htail hu
          go_wp2_with fail
          refine (HNT.out _).mono ?_
          rintro e w1 ⟨⟨n, ok, rfl, hok, hn0, hn1⟩, rfl⟩
          go_wp2_with fail
          refine (HU.out _).mono ?_
          rintro e w2 ⟨rfl, rfl⟩
          cases ok with
          | false =>
            have He : Hid (parseUnit k s.data.toList = (zero, 40)) := Lib.hid (by rw [HE.out, okNum_f hok])
            clear hok
            go_wp2_with fail
            go_returns
            exact ⟨by rw [He.out]; rfl, by go_grown⟩
          | true =>
            obtain ⟨m, hm, rfl⟩ := okNum_t hok
            have HE2 := Lib.hid (HE.out.trans (by rw [hm]))
            simp only at HE2
            clear hok hm
            by_cases h0 : u0 = 0
            · have He : Hid (parseUnit k s.data.toList = (zero, 40)) := Lib.hid (by rw [HE2.out, if_pos h0])
              subst h0
              go_wp2_with fail
              go_returns
              exact ⟨by rw [He.out]; rfl, by go_grown⟩
            · have h0' : (u0 == 0) = false := by simp [h0]
              have hq : M.tdiv u0 = M / u0 := tdiv_ediv hM0
              have hqm : 0 ≤ M / u0 ∧ M / u0 ≤ M := ⟨Int.ediv_nonneg hM0 hub0, by
                have := Int.mul_le_mul_of_nonneg_left (show (1 : Int) ≤ u0 by omega) (Int.ediv_nonneg hM0 hub0)
                have := Int.ediv_mul_le M (b := u0) h0
                omega⟩
              have Hmul : Hid ((m : Int) ≤ M / u0 → 0 ≤ (m : Int) * u0 ∧ (m : Int) * u0 ≤ M) := Lib.hid (fun h => ⟨Int.mul_nonneg (by omega) hub0, by
                have h2 := Int.mul_le_mul_of_nonneg_right h hub0
                have h3 := Int.ediv_mul_le M (b := u0) h0
                omega⟩)
              generalize M / u0 = q at *
              obtain ⟨hq0, hqM⟩ := hqm
              have hwq : IntKind.i64.wrap q = q := by rw [IntKind.wrap_i64]; omega
              by_cases hgt : q < m
              · have He : Hid (parseUnit k s.data.toList = (zero, 41)) := Lib.hid (by rw [HE2.out, if_neg h0, if_pos hgt])
                go_wp2_with fail
                refine (Hmo.out _).mono ?_
                rintro e w3 ⟨rfl, rfl⟩
                go_wp2_with fail
                go_returns
                exact ⟨by rw [He.out]; rfl, by go_grown⟩
              · have He : Hid (parseUnit k s.data.toList = (⟨k, m * u0, ByteArray.empty, []⟩, 0)) := Lib.hid (by rw [HE2.out, if_neg h0, if_neg hgt])
                obtain ⟨hp0, hp1⟩ := Hmul.out (by omega)
                go_wp2_with fail
                refine (Hmo.out _).mono ?_
                rintro e w3 ⟨rfl, rfl⟩
                go_wp2_with fail
                go_returns
                exact ⟨by rw [He.out]; rfl, by go_grown⟩
        · rw [hu] at HE
          clear Htail hu
          go_wp2_with fail
          refine (HNT.out _).mono ?_
          rintro e w1 ⟨⟨n, ok, rfl, hok, hn0, hn1⟩, rfl⟩
          go_wp2_with fail
          refine (HU.out _).mono ?_
          rintro e w2 ⟨rfl, rfl⟩
          cases ok with
          | false =>
            have He : Hid (parseUnit k s.data.toList = (zero, 40)) := Lib.hid (by rw [HE.out, okNum_f hok])
            clear hok
            go_wp2_with fail
            go_returns
            exact ⟨by rw [He.out]; rfl, by go_grown⟩
          | true =>
            obtain ⟨m, hm, rfl⟩ := okNum_t hok
            have HE2 := Lib.hid (HE.out.trans (by rw [hm]))
            simp only at HE2
            clear hok hm
            by_cases h0 : u0 = 0
            · have He : Hid (parseUnit k s.data.toList = (zero, 40)) := Lib.hid (by rw [HE2.out, if_pos h0])
              subst h0
              go_wp2_with fail
              go_returns
              exact ⟨by rw [He.out]; rfl, by go_grown⟩
            · have h0' : (u0 == 0) = false := by simp [h0]
              have hq : M.tdiv u0 = M / u0 := tdiv_ediv hM0
              have hqm : 0 ≤ M / u0 ∧ M / u0 ≤ M := ⟨Int.ediv_nonneg hM0 hub0, by
                have := Int.mul_le_mul_of_nonneg_left (show (1 : Int) ≤ u0 by omega) (Int.ediv_nonneg hM0 hub0)
                have := Int.ediv_mul_le M (b := u0) h0
                omega⟩
              have Hmul : Hid ((m : Int) ≤ M / u0 → 0 ≤ (m : Int) * u0 ∧ (m : Int) * u0 ≤ M) := Lib.hid (fun h => ⟨Int.mul_nonneg (by omega) hub0, by
                have h2 := Int.mul_le_mul_of_nonneg_right h hub0
                have h3 := Int.ediv_mul_le M (b := u0) h0
                omega⟩)
              generalize M / u0 = q at *
              obtain ⟨hq0, hqM⟩ := hqm
              have hwq : IntKind.i64.wrap q = q := by rw [IntKind.wrap_i64]; omega
              by_cases hgt : q < m
              · have He : Hid (parseUnit k s.data.toList = (zero, 41)) := Lib.hid (by rw [HE2.out, if_neg h0, if_pos hgt])
                go_wp2_with fail
                refine (Hmo.out _).mono ?_
                rintro e w3 ⟨rfl, rfl⟩
                go_wp2_with fail
                go_returns
                exact ⟨by rw [He.out]; rfl, by go_grown⟩
              · have He : Hid (parseUnit k s.data.toList = (⟨k, m * u0, ByteArray.empty, []⟩, 0)) := Lib.hid (by rw [HE2.out, if_neg h0, if_neg hgt])
                obtain ⟨hp0, hp1⟩ := Hmul.out (by omega)
                go_wp2_with fail
                refine (Hmo.out _).mono ?_
                rintro e w3 ⟨rfl, rfl⟩
                go_wp2_with fail
                go_returns
                exact ⟨by rw [He.out]; rfl, by go_grown⟩
end Go.Proofs.YtkbamhecbfocbaaGreatDoor.va
