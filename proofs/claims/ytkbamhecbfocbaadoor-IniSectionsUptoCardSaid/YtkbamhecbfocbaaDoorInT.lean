/- The reference's functions of chapter 6 (meant, given, lines, there) return plain functions. Conditions: texts of at most 536870911 bytes. -/
import Derived.Test.YtkbamhecbfocbaaDoorInS
namespace Go.Proofs.YtkbamhecbfocbaaDoor.ini
open Go.ChangeShapes Go.WideShapes Go.ChangeAt Go.RowKit gl

theorem unqE_head {t : List UInt8} (h : t.head? ≠ some 34) : unqE t = 20 := (unqL_no fun x hx => h (by rw [← hx]; rfl)).2
theorem bareR_unq {t : List UInt8} (h : bareR t = true) : unqO t = some t := by
  simp only [bareR, Bool.and_eq_true, decide_eq_true_eq] at h
  unfold unqO
  rw [if_neg h.2, if_pos h.1]
theorem bareR_no {t : List UInt8} (h : bareR t = false) : unqO t = if unqE t = 0 then some (unqL t) else none := by
  unfold unqO
  by_cases h34 : t.head? = some 34
  · rw [if_pos h34]
  · have hp : prn t = false := by
      cases hp : prn t with
      | false => rfl
      | true => simp [bareR, hp, h34] at h
    rw [if_neg h34, if_neg (by rw [hp]; simp), if_neg (by rw [unqE_head h34]; decide)]

theorem dec200 (n : Nat) : decide ((n : Int) ≤ 200) = decide (n ≤ 200) := by rw [decide_eq_decide]; omega
noncomputable def meantV (l : List UInt8) : Value := .tuple #[.string (B (refMeant l).1), .bool (refMeant l).2]
noncomputable def givenV (a l : List UInt8) : Value := .tuple #[.string (B (refGiven a l).1), .string (B (refGiven a l).2.1), .bool (refGiven a l).2.2]
theorem app_list (a b : ByteArray) : (a ++ b).data.toList = a.data.toList ++ b.data.toList := by rw [ByteArray.data_append]; simp
set_option maxHeartbeats 2000000 in
theorem meantR_any (s : ByteArray) (hs : s.size ≤ 536870911) (w : World) :
    Calls Tryd.prog 96 #[.string s] w fun e w' => e = .returned (meantV s.data.toList) ∧ Below w.heap.size w w' := by
  have HA := Lib.hid (bareR_any s (by omega) w)
  have HU := Lib.hid (refUnquote_any s hs w)
  cases hb : bareR s.data.toList with
  | true =>
    have Hb := Lib.hid hb
    have Hr : Hid (Ending.returned (.tuple #[.string s, .bool (decide ((s.size : Int) ≤ 200))]) = .returned (meantV s.data.toList)) := Lib.hid (by unfold meantV refMeant; rw [bareR_unq hb]; simp only [B_of, toList_len]; rw [dec200])
    clear hb
    go_enter Tryd.func96, Tryd.ntmps96
    go_wp2_with fail
    refine HA.out.mono ?_
    rintro e w1 ⟨rfl, rfl⟩
    rw [Hb.out]
    go_wp2_with fail
    go_ret2
    exact ⟨Hr.out, Below.refl _ _⟩
  | false =>
    have Hb := Lib.hid hb
    have hno := bareR_no hb
    clear hb
    rcases unq_two s.data.toList with ⟨he, _⟩ | ⟨he, hl⟩
    · rw [if_pos he] at hno
      obtain ⟨u, hu⟩ : ∃ u : ByteArray, u = B (unqL s.data.toList) := ⟨_, rfl⟩
      have hus : u.size = (unqL s.data.toList).length := by rw [hu, B_size]
      have hle := unq_le s.data.toList
      rw [toList_len] at hle
      have hub : u.size ≤ 536870911 := by omega
      have HU2 : Hid (unqV s.data.toList = .tuple #[.string u, .int .i64 0]) := Lib.hid (by unfold unqV; rw [he, hu])
      have Hr : Hid (Ending.returned (.tuple #[.string u, .bool (decide ((u.size : Int) ≤ 200))]) = .returned (meantV s.data.toList)) := Lib.hid (by unfold meantV refMeant; rw [hno, dec200, hus, hu])
      clear hno hu hus hle he
      go_enter Tryd.func96, Tryd.ntmps96
      go_wp2_with fail
      refine HA.out.mono ?_
      rintro e w1 ⟨rfl, rfl⟩
      rw [Hb.out]
      go_wp2_with fail
      refine HU.out.mono ?_
      rintro e w1 ⟨rfl, hb⟩
      rw [HU2.out]
      have Hbel := Lib.hid hb
      clear hb
      go_wp2_with fail
      go_ret2
      exact ⟨Hr.out, Hbel.out⟩
    · rw [if_neg (by rw [he]; decide)] at hno
      have HU2 : Hid (unqV s.data.toList = .tuple #[.string ⟨#[]⟩, .int .i64 20]) := Lib.hid (by unfold unqV; rw [he, hl])
      have Hr : Hid (Ending.returned (.tuple #[.string ⟨#[]⟩, .bool false]) = .returned (meantV s.data.toList)) := Lib.hid (by unfold meantV refMeant; rw [hno])
      clear hno he hl
      go_enter Tryd.func96, Tryd.ntmps96
      go_wp2_with fail
      refine HA.out.mono ?_
      rintro e w1 ⟨rfl, rfl⟩
      rw [Hb.out]
      go_wp2_with fail
      refine HU.out.mono ?_
      rintro e w1 ⟨rfl, hb⟩
      rw [HU2.out]
      have Hbel := Lib.hid hb
      clear hb
      go_wp2_with fail
      go_ret2
      exact ⟨Hr.out, Hbel.out⟩

/-! ### given -/
def noE (l : List UInt8) (k : Nat) : Prop := ∀ (j : Nat), j < k → l[j]? ≠ some 61
theorem noE_succ {l : List UInt8} {k : Nat} {b : UInt8} (h : noE l k) (hb : l[k]? = some b) (hne : b.toNat ≠ 61) : noE l (k + 1) := by
  intro j hj
  rcases Nat.lt_or_ge j k with h1 | h1
  · exact h j h1
  · obtain rfl : j = k := by omega
    rw [hb]
    intro e
    obtain rfl := Option.some.inj e
    exact hne rfl
theorem noE_all {l : List UInt8} (h : noE l l.length) : (61 : UInt8) ∉ l := fun hm => by
  obtain ⟨j, hj⟩ := List.mem_iff_getElem?.1 hm
  exact h j (lt_of_get hj) hj
theorem noE_cut {l : List UInt8} {k : Nat} (h : noE l k) (hk : l[k]? = some 61) : (61 : UInt8) ∈ l ∧ beforeE l = l.take k ∧ afterE l = l.drop (k + 1) := by
  have hlt := lt_of_get hk
  have e : l = l.take k ++ 61 :: l.drop (k + 1) := by
    conv => lhs; rw [← List.take_append_drop k l]
    rw [drop_at hk]
  have hn : (61 : UInt8) ∉ l.take k := by
    intro hm
    obtain ⟨j, hj⟩ := List.mem_iff_getElem?.1 hm
    have := lt_of_get hj
    simp at this
    rw [List.getElem?_take_of_lt (by omega)] at hj
    exact h j (by omega) hj
  obtain ⟨h1, h2⟩ := takeE (r := l.drop (k + 1)) hn
  rw [← e] at h1 h2
  exact ⟨List.mem_of_getElem? hk, h1, by unfold afterE; rw [h2]; rfl⟩

set_option maxHeartbeats 4000000 in
set_option maxRecDepth 100000 in
theorem given_any (a s : ByteArray) (ha : a.size ≤ 100000) (hs : s.size ≤ 100000) (w : World) :
    Calls Tryd.prog 68 #[.string a, .string s] w fun e w' => e = .returned (givenV a.data.toList s.data.toList) ∧ Below w.heap.size w w' := by
  go_enter Tryd.func68, Tryd.ntmps68
  go_wp2_with fail
  go_loop [7] (fun i => ∃ k : Nat, k ≤ s.size ∧ i = .int .i64 k ∧ noE s.data.toList k) (fun i => s.size - (intOf i).toNat)
  case atStart => exact ⟨0, by omega, rfl, fun j h => by omega⟩
  case round =>
    obtain ⟨k, hk, rfl, hto⟩ := hrel
    have Hto := Lib.hid hto
    clear hto
    by_cases hlt : k < s.size
    · obtain ⟨b, hb, hbk, hb0, hb1⟩ := byteAt s k hlt
      have hbk' := hbk hlt
      by_cases h61 : b.toNat = 61
      · have q : ((b.toNat : Int) != 61) = false := by rw [h61]; rfl
        have q2 : ((k : Int) == (s.size : Int)) = false := by simp; omega
        obtain ⟨hin, hbe, haf⟩ := noE_cut Hto.out (by rw [hb, show b = 61 from UInt8.toNat_inj.1 (by rw [h61]; rfl)])
        obtain ⟨X, hX⟩ : ∃ X : ByteArray, X = s.extract 0 k := ⟨_, rfl⟩
        obtain ⟨Y, hY⟩ : ∃ Y : ByteArray, Y = s.extract (k + 1) s.size := ⟨_, rfl⟩
        have hXl : X.data.toList = beforeE s.data.toList := by rw [hX, extract_toList, hbe]; simp
        have hYl : Y.data.toList = afterE s.data.toList := by rw [hY, extract_toList, haf, List.take_of_length_le (by simp)]
        have hXs : X.size ≤ s.size := by rw [hX]; exact extract_size_le _ _ _
        have hYs : Y.size ≤ s.size := by rw [hY]; exact extract_size_le _ _ _
        obtain ⟨tX, htX⟩ : ∃ tX : ByteArray, tX = B (tri X.data.toList) := ⟨_, rfl⟩
        obtain ⟨tY, htY⟩ : ∃ tY : ByteArray, tY = B (tri Y.data.toList) := ⟨_, rfl⟩
        have htXs : tX.size ≤ s.size := by rw [htX, B_size]; have := tri_len X.data.toList; rw [toList_len] at this; omega
        have htYs : tY.size ≤ s.size := by rw [htY, B_size]; have := tri_len Y.data.toList; rw [toList_len] at this; omega
        have H1 := Lib.hid fun W => trimmed_any X (by omega) W
        rw [← htX] at H1
        have H2 := Lib.hid fun W => trimmed_any Y (by omega) W
        rw [← htY] at H2
        have H3 := Lib.hid fun W => meantR_any tY (by omega) W
        have H4 := Lib.hid fun W => refIsName_any (a ++ tX) (by rw [ByteArray.size_append]; omega) W
        have H5 := Lib.hid fun W => parts_any tX (by omega) W
        obtain ⟨N, hN⟩ : ∃ N : ByteArray, N = a ++ tX := ⟨_, rfl⟩
        have hNs : N.size ≤ 200000 := by rw [hN, ByteArray.size_append]; omega
        obtain ⟨⟨u, ok⟩, hM⟩ : ∃ p, refMeant tY.data.toList = p := ⟨_, rfl⟩
        have HM : Hid (meantV tY.data.toList = .tuple #[.string (B u), .bool ok]) := Lib.hid (by unfold meantV; rw [hM])
        have H4 := Lib.hid fun W => refIsName_any N (by omega) W
        have H5 := Lib.hid fun W => parts_any tX (by omega) W
        have HN : Hid (a ++ tX = N) := Lib.hid hN.symm
        have Hr : Hid (Ending.returned (.tuple #[.string N, .string (B u), .bool (ok && nameL N.data.toList && (pcs 46 tX.data.toList).all partL)]) = .returned (givenV a.data.toList s.data.toList)) := Lib.hid (by
          have e : refGiven a.data.toList s.data.toList = (N.data.toList, u, ok && nameL N.data.toList && (pcs 46 tX.data.toList).all partL) := by
            unfold refGiven
            rw [if_pos hin, ← hXl, ← hYl, hN, app_list]
            rw [htY, B_list] at hM
            rw [hM, htX, B_list]
          unfold givenV
          rw [e, B_of])
        have hsum : ∀ wx : World, (Op.stringOp .add a tX).run Tryd.prog wx = .ok (.string N) wx := fun wx => by
          rw [hN]
          exact run_string_add_sum wx _ _ (by omega)
        have HX := Lib.hid hX
        have HY := Lib.hid hY
        clear hb h61 hin hbe haf hXl hYl htX htY hX hY hN hM Hto
        go_wp2_with fail
        rw [← HX.out]
        refine (H1.out _).mono ?_
        rintro e w1 ⟨rfl, rfl⟩
        go_wp2_with fail
        rw [← HY.out]
        refine (H2.out _).mono ?_
        rintro e w1 ⟨rfl, rfl⟩
        go_wp2_with fail
        refine (H3.out _).mono ?_
        rintro e w1 ⟨rfl, hb⟩
        rw [HM.out]
        have Hb := Lib.hid hb
        clear hb
        go_wp2_with fail
        refine (H4.out _).mono ?_
        rintro e w2 ⟨rfl, rfl⟩
        generalize nameL N.data.toList = nm at *
        generalize (pcs 46 tX.data.toList).all partL = pa at *
        cases ok
        · go_wp2_with fail
          go_ret3
          exact ⟨Hr.out, Hb.out⟩
        · cases nm
          · go_wp2_with fail
            go_ret3
            exact ⟨Hr.out, Hb.out⟩
          · go_wp2_with fail
            rw [← HX.out]
            refine (H1.out _).mono ?_
            rintro e w3 ⟨rfl, rfl⟩
            go_wp2_with fail
            refine (H5.out _).mono ?_
            rintro e w3 ⟨rfl, rfl⟩
            go_wp2_with fail
            go_ret3
            exact ⟨Hr.out, Hb.out⟩
      · have q : ((b.toNat : Int) != 61) = true := by simp; omega
        have Hn := Lib.hid (noE_succ Hto.out hb h61)
        clear hb h61
        go_wp2_with fail
        go_round
        case rel => exact ⟨k + 1, by omega, by go_num, Hn.out⟩
        case measure => simp [intOf]; omega
    · obtain rfl : k = s.size := by omega
      have q : ((s.size : Int) == (s.size : Int)) = true := by simp
      have Hr : Hid (Ending.returned (.tuple #[.string ⟨#[]⟩, .string ⟨#[]⟩, .bool false]) = .returned (givenV a.data.toList s.data.toList)) := Lib.hid (by
        unfold givenV refGiven
        rw [if_neg (noE_all (by rw [toList_len]; exact Hto.out))])
      go_wp2_with fail
      go_ret3
      exact ⟨Hr.out, Below.refl _ _⟩

/-! ### lines -/
theorem own_snoc {w : World} {Bs n cap g : Nat} {e : TypeId} {xs : List Value} {L : List (List UInt8)} {t : List UInt8} {x : ByteArray} (hx : x = B t) (h : w.ownsRow Bs e 1 (.slice (some ⟨g, 0, none⟩) (n + 1) cap) (n + 1) (xs ++ [.string x])) (hxs : xs = L.map fun y => Value.string (B y)) :
    w.ownsRow Bs e 1 (.slice (some ⟨g, 0, none⟩) (n + 1) cap) (n + 1) ((L ++ [t]).map fun y => Value.string (B y)) := by
  rw [hxs, hx] at h
  rw [List.map_append]
  exact h
theorem infoStr : (Tryd.prog.info? 9).map (fun i => (i.zero, i.size, i.bytes)) = some (some (.string .empty), 1, 16) := by kernel_rfl
set_option maxHeartbeats 4000000 in
set_option maxRecDepth 100000 in
theorem lines_any (s : ByteArray) (hs : s.size ≤ 8000) (w : World) :
    Calls Tryd.prog 66 #[.string s] w fun e w' => ∃ g cap, e = .returned (.slice (some ⟨g, 0, none⟩) (pcs 10 s.data.toList).length cap) ∧ w'.ownsRow w.heap.size 9 1 (.slice (some ⟨g, 0, none⟩) (pcs 10 s.data.toList).length cap) (pcs 10 s.data.toList).length ((pcs 10 s.data.toList).map fun y => Value.string (B y)) ∧ Below w.heap.size w w' := by
  obtain ⟨i0, hi, hz0, hz1, hz2⟩ := info_parts infoStr
  go_enter Tryd.func66, Tryd.ntmps66
  go_wp2_with fail
  go_loopw [3, 4, 5] (fun v f i wr => ∃ (k F n : Nat) (p : Option Addr) (c : Nat) (done : List (List UInt8)), k ≤ s.size ∧ i = .int .i64 k ∧ f = .int .i64 F ∧ F ≤ k ∧ n = done.length ∧ n ≤ k ∧ v = .slice p n c ∧ LS 10 s.data.toList F k done ∧ wr.ownsRow w.heap.size 9 1 (.slice p n c) n (done.map fun y => Value.string (B y)) ∧ Below w.heap.size w wr) (fun _ _ i _ => s.size - (intOf i).toNat)
  case atStart => exact ⟨0, 0, 0, none, 0, [], by omega, rfl, rfl, by omega, rfl, by omega, rfl, LS.start _ _, ⟨rfl, .inl ⟨rfl, rfl⟩⟩, Below.refl _ _⟩
  case round =>
    obtain ⟨k, F, n, p, c, done, hk, rfl, rfl, hF, hn, hnk, rfl, hst, hown, hbel⟩ := hrel
    have Hst := Lib.hid hst
    have Hown := Lib.hid hown
    have Hbel := Lib.hid hbel
    have Hn := Lib.hid hn
    have hszw := hbel.size
    clear hst hown hbel hn
    by_cases hlt : k < s.size
    · obtain ⟨b, hb, hbk, hb0, hb1⟩ := byteAt s k hlt
      have hbk' := hbk hlt
      by_cases h10 : b.toNat = 10
      · have q : ((b.toNat : Int) == 10) = true := by rw [h10]; rfl
        have hb2 : s.data.toList[k]? = some 10 := by rw [hb, show b = 10 from UInt8.toNat_inj.1 (by rw [h10]; rfl)]
        have Hnx := Lib.hid (Hst.out.hit hb2)
        obtain ⟨T, hT⟩ : ∃ T : ByteArray, T = s.extract F k := ⟨_, rfl⟩
        have HTl : Hid (T = B ((s.data.toList.drop F).take (k - F))) := Lib.hid (by rw [hT, ← Lib.extract_data, B_of])
        have HT := Lib.hid hT
        clear hb h10 hb2 hT
        focus
          go_wp2_with (at_builtin; go_must (refine wpList_append_lit rfl _ _ 25 rfl 9 i0 _ 16 Tryd.underlying25 hi hz0 hz1 hz2 rfl _ 1 (by omega) (by rfl) (by rfl) w.heap.size _ n _ (by rfl) Hown.out (by simp [Value.oneCell']) (by omega) (by omega) (by omega) ?_))
        intro g' cap' w1 hown1 hgrow hat hz hlt1
        have Hown1 := Lib.hid (own_snoc (HTl.out ▸ HT.out.symm) hown1 rfl)
        have HB1 := Lib.hid (below_grown_own Hbel.out Hown.out hgrow hszw)
        clear hown1 hgrow hat hlt1 Hown Hbel
        go_wp2_with fail
        go_roundw
        case rel => exact ⟨k + 1, k + 1, n + 1, some ⟨g', 0, none⟩, cap', _, by omega, by go_num, by go_num, by omega, by rw [List.length_append, ← Hn.out]; rfl, by omega, rfl, Hnx.out, Hown1.out, HB1.out⟩
        case measure => simp [intOf]; omega
      · have q : ((b.toNat : Int) == 10) = false := by simp; omega
        have Hnx := Lib.hid (Hst.out.pass hb (by rintro rfl; exact h10 rfl))
        clear hb h10
        go_wp2_with fail
        go_roundw
        case rel => exact ⟨k + 1, F, n, p, c, done, by omega, by go_num, rfl, by omega, Hn.out, by omega, rfl, Hnx.out, Hown.out, Hbel.out⟩
        case measure => simp [intOf]; omega
    · obtain rfl : k = s.size := by omega
      have hl0 := toList_len s
      have hlast : pcs 10 s.data.toList = done ++ [s.data.toList.drop F] := LS.last (by rw [hl0]; exact Hst.out)
      have Hlast := Lib.hid hlast
      obtain ⟨T, hT⟩ : ∃ T : ByteArray, T = s.extract F s.size := ⟨_, rfl⟩
      have HTl : Hid (T = B (s.data.toList.drop F)) := Lib.hid (by rw [hT, ← drop_data, B_of])
      have HT := Lib.hid hT
      clear hT hlast hl0
      focus
        go_wp2_with (at_builtin; go_must (refine wpList_append_lit rfl _ _ 25 rfl 9 i0 _ 16 Tryd.underlying25 hi hz0 hz1 hz2 rfl _ 1 (by omega) (by rfl) (by rfl) w.heap.size _ n _ (by rfl) Hown.out (by simp [Value.oneCell']) (by omega) (by omega) (by omega) ?_))
      intro g' cap' w1 hown1 hgrow hat hz hlt1
      have Hown1 := Lib.hid (own_snoc (HTl.out ▸ HT.out.symm) hown1 rfl)
      have HB1 := Lib.hid (below_grown_own Hbel.out Hown.out hgrow hszw)
      have Hlen : Hid ((pcs 10 s.data.toList).length = n + 1) := Lib.hid (by rw [Hlast.out, List.length_append, ← Hn.out]; rfl)
      clear hown1 hgrow hat hlt1 Hown Hbel
      go_wp2_with fail
      go_ret
      refine ⟨g', cap', by rw [Hlen.out]; rfl, ?_, HB1.out⟩
      rw [Hlen.out, Hlast.out]
      exact Hown1.out
end Go.Proofs.YtkbamhecbfocbaaDoor.ini
