/- The reference's Parse of chapter 6 returns the plain function. Condition: the text is no longer than 2147483647 bytes. -/
import Derived.Test.YtkbamhecbfocbaaDoorInU
import Derived.Test.YtkbamhecbfocbaaDoorLib5
namespace Go.Proofs.YtkbamhecbfocbaaDoor.ini
open Go.ChangeShapes Go.WideShapes Go.ChangeAt Go.RowKit gl

def POut (r : List Ln × Int × Int) (w : World) (e : Ending) (w' : World) : Prop := ∃ v, e = .returned (.tuple #[v, .int .i64 r.2.1, .int .i64 r.2.2]) ∧ NewLns w.heap.size w' v r.1
theorem infoLn : (Tryd.prog.info? 35).map (fun i => (i.zero, i.size, i.bytes)) = some (some (.agg #[.string .empty, .string .empty, .int .i64 0]), 3, 40) := by kernel_rfl
theorem run_none {k : Nat} {a : List UInt8} {out : List Ln} {s : List UInt8} {ss : List (List UInt8)} (h : lineL a out s = none) : runL k a out (s :: ss) = ([], 60, (k : Int) + 1) := by rw [runL, h]
theorem run_skip {k : Nat} {a a' : List UInt8} {out : List Ln} {s : List UInt8} {ss : List (List UInt8)} (h : lineL a out s = some (a', none)) : runL k a out (s :: ss) = runL (k + 1) a' out ss := by rw [runL, h]
theorem run_new {k : Nat} {a a' n t : List UInt8} {out : List Ln} {s : List UInt8} {ss : List (List UInt8)} (h : lineL a out s = some (a', some (n, t))) : runL k a out (s :: ss) = runL (k + 1) a' (out ++ [⟨n, t, (k : Int) + 1⟩]) ss := by rw [runL, h]
theorem drop_get {α : Type} {l : List α} {k : Nat} {x : α} (h : l[k]? = some x) : l.drop k = x :: l.drop (k + 1) := by
  have hlt := lt_of_get h
  rw [List.drop_eq_getElem_cons hlt]
  rw [List.getElem?_eq_getElem hlt] at h
  rw [Option.some.inj h]
theorem lns_snoc {w : World} {Bs n cap g : Nat} {out : List Ln} {x : Ln} {N U : ByteArray} (hN : N = B x.name) (hU : U = B x.text) (h : w.ownsRow Bs 35 3 (.slice (some ⟨g, 0, none⟩) (n + 1) cap) (n + 1) (lnsC out ++ [.string N, .string U, .int .i64 x.num])) :
    w.ownsRow Bs 35 3 (.slice (some ⟨g, 0, none⟩) (n + 1) cap) (n + 1) (lnsC (out ++ [x])) := by
  rw [hN, hU] at h
  have e : lnsC (out ++ [x]) = lnsC out ++ lnC x := by simp [lnsC]
  rw [e]
  exact h
theorem lineT_skip {a : List UInt8} {out : List Ln} {s : List UInt8} {c : UInt8} {r : List UInt8} (h : tri s = c :: r) (hc : c = 59 ∨ c = 35) : lineL a out s = some (a, none) := by
  unfold lineL
  rw [h, lineT_cons, if_pos hc]
theorem lineT_nil {a : List UInt8} {out : List Ln} {s : List UInt8} (h : tri s = []) : lineL a out s = some (a, none) := by
  unfold lineL
  rw [h]
  rfl
theorem lineT_sec {a : List UInt8} {out : List Ln} {s r : List UInt8} (h : tri s = 91 :: r) : lineL a out s = (secL r).map fun x => (x, none) := by
  unfold lineL
  rw [h, lineT_cons, if_neg (by decide), if_pos rfl]
theorem lineT_giv {a : List UInt8} {out : List Ln} {s : List UInt8} {c : UInt8} {r : List UInt8} (h : tri s = c :: r) (h1 : c ≠ 59) (h2 : c ≠ 35) (h3 : c ≠ 91) (ha : SecIs a) :
    lineL a out s = if (refGiven a (c :: r)).2.2 = true ∧ there out (refGiven a (c :: r)).1 = false then some (a, some ((refGiven a (c :: r)).1, (refGiven a (c :: r)).2.1)) else none := by
  unfold lineL
  have hends := tri_ends s
  rw [h] at hends ⊢
  rw [lineT_given h1 h2 h3]
  rcases hends with hends | ⟨e1, e2⟩
  · cases hends
  · rw [given_eq e1 e2 ha]
    split <;> rfl
theorem sec_last {r : List UInt8} {z : UInt8} (h : r[r.length - 1]? = some z) : r.getLast? = some z ∧ r.dropLast = r.take (r.length - 1) := by
  have e := last_split h
  constructor
  · rw [e]; simp
  · rw [List.dropLast_eq_take]
theorem sec_bad {r : List UInt8} {z : UInt8} (h : r[r.length - 1]? = some z) (hz : z ≠ 93) : secL r = none := by
  unfold secL
  rw [(sec_last h).1, if_neg (by intro e; exact hz (Option.some.inj e))]
theorem sec_good {r : List UInt8} (h : r[r.length - 1]? = some 93) : secL r = if r.take (r.length - 1) = [] then some [] else if secOk (r.take (r.length - 1)) = true then some (r.take (r.length - 1) ++ [46]) else none := by
  unfold secL
  rw [(sec_last h).1, if_pos rfl, (sec_last h).2]

set_option maxHeartbeats 8000000 in
set_option maxRecDepth 100000 in
theorem refParse_any (s : ByteArray) (hs : s.size ≤ 9223372036854775807) (w : World) :
    Calls Tryd.prog 34 #[.string s] w fun e w' => POut (parseL s.data.toList) w e w' ∧ Below w.heap.size w w' := by
  by_cases hbig : s.size ≤ 8000
  · obtain ⟨i0, hi, hz0, hz1, hz2⟩ := info_parts infoLn
    have HP : Hid (parseL s.data.toList = runL 0 [] [] (pcs 10 s.data.toList)) := Lib.hid (by unfold parseL; rw [if_pos (by rw [toList_len]; exact hbig)])
    go_enter Tryd.func34, Tryd.ntmps34
    go_wp2_with fail
    refine (lines_any s hbig _).mono ?_
    rintro e w1 ⟨gl, cl, rfl, hown, hb⟩
    have HPC : Hid (∀ (k : Nat) (x : List UInt8), (pcs 10 s.data.toList)[k]? = some x → w1.cell? ⟨gl, k, none⟩ = some (.string (B x)) ∧ x.length ≤ 8000) := Lib.hid fun k x hx => by
      refine ⟨?_, ?_⟩
      · have := hown.cells (g := gl) rfl k (.string (B x)) (by rw [List.getElem?_map, hx]; rfl)
        rwa [ls.addN, Nat.zero_add] at this
      · have := mem_pcs_le 10 _ x (List.mem_of_getElem? hx)
        rw [toList_len] at this
        omega
    have hN : (pcs 10 s.data.toList).length ≤ 8001 := by
      rw [pcs_length]
      have := List.count_le_length (a := (10 : UInt8)) (l := s.data.toList)
      rw [toList_len] at this
      omega
    have hcl : (pcs 10 s.data.toList).length ≤ cl := by
      rcases hown.2 with ⟨h, _⟩ | ⟨g, cap, cur, h, _, _, h2, _⟩
      · cases h
      · cases h; exact h2
    have hgl : gl < w1.heap.size := (hown.lt gl rfl).2
    have Hb := Lib.hid hb
    have hzw := hb.size
    generalize pcs 10 s.data.toList = PS at *
    obtain ⟨N, hNe⟩ : ∃ N, N = PS.length := ⟨_, rfl⟩
    rw [← hNe] at hN hcl ⊢
    have HN := Lib.hid hNe
    clear hown hb hNe
    go_wp2_with fail
    go_loopw [6, 7, 8] (fun sv ov i wr => ∃ (k n : Nat) (A : ByteArray) (out : List Ln) (p : Option Addr) (c : Nat), k ≤ N ∧ i = .int .i64 k ∧ sv = .string A ∧ A.size ≤ 8001 ∧ SecIs A.data.toList ∧ n = out.length ∧ n ≤ k ∧ ov = .slice p n c ∧ wr.ownsRow w1.heap.size 35 3 (.slice p n c) n (lnsC out) ∧ parseL s.data.toList = runL k A.data.toList out (PS.drop k) ∧ Below w1.heap.size w1 wr) (fun _ _ i _ => N - (intOf i).toNat)
    case atStart => exact ⟨0, 0, ⟨#[]⟩, [], none, 0, by omega, rfl, rfl, by decide, .inl rfl, rfl, by omega, rfl, ⟨rfl, .inl ⟨rfl, rfl⟩⟩, HP.out, Below.refl _ _⟩
    case round =>
      obtain ⟨k, n, A, out, p, c, hk, rfl, rfl, hA, hsec, hn, hnk, rfl, hown, hrun, hbel⟩ := hrel
      have Hown := Lib.hid hown
      have Hsec := Lib.hid hsec
      have Hrun := Lib.hid hrun
      have Hbel := Lib.hid hbel
      have Hn := Lib.hid hn
      have hzr := hbel.size
      have hnc : n ≤ c := by
        rcases hown.2 with ⟨h, h0⟩ | ⟨g, cap, cur, h, _, _, h2, _⟩
        · cases h; omega
        · cases h; exact h2
      clear hown hsec hrun hbel hn
      by_cases hlt : k < N
      · obtain ⟨x, hx⟩ : ∃ x, PS[k]? = some x := ⟨_, List.getElem?_eq_getElem (by rw [← HN.out]; exact hlt)⟩
        obtain ⟨hcx, hxl⟩ := HPC.out k x hx
        have c0 : wr.cell? ⟨gl, k, none⟩ = some (.string (B x)) := (Hbel.out.cell (p := ⟨gl, k, none⟩) hgl).trans hcx
        have hglr : gl < wr.heap.size := by omega
        have Hdr : Hid (PS.drop k = x :: PS.drop (k + 1)) := Lib.hid (drop_get hx)
        have HT := Lib.hid fun W => trimmed_any (B x) (by rw [B_size]; omega) W
        rw [B_list] at HT
        have htl := tri_len x
        obtain ⟨T, hT⟩ : ∃ T : ByteArray, T = B (tri x) := ⟨_, rfl⟩
        have hTs : T.size ≤ 8000 := by rw [hT, B_size]; omega
        have HTl : Hid (T.data.toList = tri x) := Lib.hid (by rw [hT, B_list])
        rw [← hT] at HT
        clear hx hcx htl hT
        generalize B x = X at *
        go_wp2_with fail
        refine (HT.out _).mono ?_
        rintro e w2 ⟨rfl, rfl⟩
        cases htx : tri x with
        | nil =>
          have q := seq_lit (HTl.out.trans htx)
          have Hr2 : Hid (parseL s.data.toList = runL (k + 1) A.data.toList out (PS.drop (k + 1))) := Lib.hid (by rw [Hrun.out, Hdr.out, run_skip (lineT_nil htx)])
          clear htx
          go_wp2_with fail
          go_roundw
          case rel => exact ⟨k + 1, n, A, out, p, c, by omega, by go_num, rfl, hA, Hsec.out, Hn.out, by omega, rfl, Hown.out, Hr2.out, Hbel.out⟩
          case measure => simp [intOf]; omega
        | cons b r =>
          have hTe := HTl.out.trans htx
          have hT0 : 0 < T.size := by have := congrArg List.length hTe; rw [toList_len] at this; simp at this; omega
          have q := seq_nlit (a := T) (l := []) (by rw [hTe]; simp)
          obtain ⟨b', hb, hbk, hb0, hb1⟩ := byteAt T 0 hT0
          have hbk' := hbk hT0
          obtain rfl : b' = b := by rw [hTe] at hb; simpa using hb.symm
          have Htx := Lib.hid htx
          have HTe := Lib.hid hTe
          clear hb htx hTe
          by_cases h59 : b'.toNat = 59 ∨ b'.toNat = 35
          · have hb' : b' = 59 ∨ b' = 35 := by
              rcases h59 with h | h
              · exact .inl (UInt8.toNat_inj.1 (by rw [h]; rfl))
              · exact .inr (UInt8.toNat_inj.1 (by rw [h]; rfl))
            have Hr2 : Hid (parseL s.data.toList = runL (k + 1) A.data.toList out (PS.drop (k + 1))) := Lib.hid (by rw [Hrun.out, Hdr.out, run_skip (lineT_skip Htx.out hb')])
            clear hb'
            rcases h59 with h | h
            · have q2 : ((b'.toNat : Int) == 59) = true := by rw [h]; rfl
              clear h
              go_wp2_with fail
              go_roundw
              case rel => exact ⟨k + 1, n, A, out, p, c, by omega, by go_num, rfl, hA, Hsec.out, Hn.out, by omega, rfl, Hown.out, Hr2.out, Hbel.out⟩
              case measure => simp [intOf]; omega
            · have q2 : ((b'.toNat : Int) == 59) = false := by rw [h]; rfl
              have q3 : ((b'.toNat : Int) == 35) = true := by rw [h]; rfl
              clear h
              go_wp2_with fail
              go_roundw
              case rel => exact ⟨k + 1, n, A, out, p, c, by omega, by go_num, rfl, hA, Hsec.out, Hn.out, by omega, rfl, Hown.out, Hr2.out, Hbel.out⟩
              case measure => simp [intOf]; omega
          · have q2 : ((b'.toNat : Int) == 59) = false := by simp; omega
            have q3 : ((b'.toNat : Int) == 35) = false := by simp; omega
            by_cases h91 : b'.toNat = 91
            · have q4 : ((b'.toNat : Int) == 91) = true := by rw [h91]; rfl
              have hb91 : b' = 91 := UInt8.toNat_inj.1 (by rw [h91]; rfl)
              have Hsl : Hid (lineL A.data.toList out x = (secL r).map fun y => (y, none)) := Lib.hid (lineT_sec (by rw [Htx.out, hb91]))
              obtain ⟨R, hR⟩ : ∃ R : ByteArray, R = T.extract 1 T.size := ⟨_, rfl⟩
              have HRl : Hid (R.data.toList = r) := Lib.hid (by rw [hR, drop_data, HTe.out]; rfl)
              have hRs : R.size ≤ T.size - 1 := by rw [hR, ByteArray.size_extract]; omega
              have hRe : T.extract 1 T.size = R := hR.symm
              have hRl := toList_len R
              rw [HRl.out] at hRl
              clear h59 h91 hb91 hR
              rcases Nat.eq_zero_or_pos R.size with hz | hz
              · have hr0 : r = [] := List.eq_nil_of_length_eq_zero (by omega)
                have q5 := seq_lit (HRl.out.trans hr0)
                have Hr2 : Hid (parseL s.data.toList = ([], 60, (k : Int) + 1)) := Lib.hid (by rw [Hrun.out, Hdr.out, run_none]; rw [Hsl.out, hr0]; rfl)
                clear hr0 hz hRl
                go_wp2_with fail
                go_ret3
                exact ⟨⟨_, by rw [Hr2.out]; rfl, .inl ⟨by rw [Hr2.out], rfl⟩⟩, then_bel Hb.out (Hbel.out)⟩
              · have hzR : R.size - 1 < R.size := by omega
                obtain ⟨z, hzl, hzk, hz0', hz1'⟩ := byteAt R (R.size - 1) hzR
                have hzk' := hzk hzR
                have q5 := seq_nlit (a := R) (l := []) (by rw [HRl.out]; intro e; rw [e] at hRl; simp at hRl; omega)
                have elen : ((R.size : Int) - 1).toNat = R.size - 1 := by omega
                rw [HRl.out, ← hRl] at hzl
                by_cases hz93 : z.toNat = 93
                · have q6 : ((z.toNat : Int) != 93) = false := by rw [hz93]; rfl
                  rw [show z = 93 from UInt8.toNat_inj.1 (by rw [hz93]; rfl)] at hzl
                  have Hsg := Lib.hid (sec_good hzl)
                  obtain ⟨Q, hQ⟩ : ∃ Q : ByteArray, Q = R.extract 0 (R.size - 1) := ⟨_, rfl⟩
                  have HQl : Hid (Q.data.toList = r.take (r.length - 1)) := Lib.hid (by rw [hQ, extract_toList, HRl.out, hRl]; simp)
                  have hQs : Q.size ≤ R.size - 1 := by rw [hQ, ByteArray.size_extract]; omega
                  have hQe : R.extract 0 (R.size - 1) = Q := hQ.symm
                  have H2 := Lib.hid fun W => two_any Q (by omega) W
                  clear hz93 hzl hQ
                  by_cases hQ0 : Q.data.toList = []
                  · have hno : secOk Q.data.toList = false := by rw [hQ0]; rfl
                    have q7 : (Q.toList != []) = false := by rw [bne, seq_lit hQ0]; rfl
                    have q8 : Q.toList.isEmpty = true := by rw [ByteArray.toList_eq, hQ0]; rfl
                    have Hr2 : Hid (parseL s.data.toList = runL (k + 1) Q.data.toList out (PS.drop (k + 1))) := Lib.hid (by
                      rw [Hrun.out, Hdr.out, run_skip (a' := Q.data.toList)]
                      rw [Hsl.out, Hsg.out, ← HQl.out, if_pos hQ0, hQ0]
                      rfl)
                    have HQ0 := Lib.hid hQ0
                    clear hQ0 hRl
                    go_wp2_with fail
                    refine (H2.out _).mono ?_
                    rintro e w3 ⟨rfl, rfl⟩
                    rw [hno]
                    clear hno
                    go_wp2_with fail
                    go_roundw
                    case rel => exact ⟨k + 1, n, Q, out, p, c, by omega, by go_num, rfl, by omega, .inl HQ0.out, Hn.out, by omega, rfl, Hown.out, Hr2.out, Hbel.out⟩
                    case measure => simp [intOf]; omega
                  · have q7 : (Q.toList != []) = true := by rw [bne, seq_nlit hQ0]; rfl
                    have q8 : Q.toList.isEmpty = false := by
                      rw [ByteArray.toList_eq]
                      cases hc : Q.data.toList with
                      | nil => exact absurd hc hQ0
                      | cons => rfl
                    cases hok : secOk Q.data.toList with
                    | false =>
                      have Hr2 : Hid (parseL s.data.toList = ([], 60, (k : Int) + 1)) := Lib.hid (by
                        rw [Hrun.out, Hdr.out, run_none]
                        rw [Hsl.out, Hsg.out, ← HQl.out, if_neg hQ0, hok]
                        rfl)
                      have Hok := Lib.hid hok
                      clear hQ0 hRl hok
                      go_wp2_with fail
                      refine (H2.out _).mono ?_
                      rintro e w3 ⟨rfl, rfl⟩
                      rw [Hok.out]
                      go_wp2_with fail
                      go_ret3
                      exact ⟨⟨_, by rw [Hr2.out]; rfl, .inl ⟨by rw [Hr2.out], rfl⟩⟩, then_bel Hb.out (Hbel.out)⟩
                    | true =>
                      obtain ⟨A2, hA2⟩ : ∃ A2 : ByteArray, A2 = Q ++ (⟨#[46]⟩ : ByteArray) := ⟨_, rfl⟩
                      have hA2s : A2.size ≤ 8001 := by rw [hA2, ByteArray.size_append]; have : (⟨#[46]⟩ : ByteArray).size = 1 := rfl; omega
                      have HA2l : Hid (A2.data.toList = Q.data.toList ++ [46]) := Lib.hid (by rw [hA2, app_list])
                      have hsum : ∀ wx : World, (Op.stringOp .add Q ⟨#[46]⟩).run Tryd.prog wx = .ok (.string A2) wx := fun wx => by
                        rw [hA2]
                        exact run_string_add_sum wx _ _ (by have : (⟨#[46]⟩ : ByteArray).size = 1 := rfl; omega)
                      have HA2 := Lib.hid hA2
                      have Hr2 : Hid (parseL s.data.toList = runL (k + 1) A2.data.toList out (PS.drop (k + 1))) := Lib.hid (by
                        rw [Hrun.out, Hdr.out, run_skip (a' := A2.data.toList)]
                        rw [Hsl.out, Hsg.out, ← HQl.out, if_neg hQ0, hok, HA2l.out]
                        rfl)
                      have Hok := Lib.hid hok
                      clear hQ0 hRl hok hA2
                      go_wp2_with fail
                      refine (H2.out _).mono ?_
                      rintro e w3 ⟨rfl, rfl⟩
                      rw [Hok.out]
                      go_wp2_with fail
                      go_roundw
                      case rel => exact ⟨k + 1, n, A2, out, p, c, by omega, by go_num, (by first | rfl | rw [HA2.out]), by omega, .inr ⟨_, HA2l.out⟩, Hn.out, by omega, rfl, Hown.out, Hr2.out, Hbel.out⟩
                      case measure => simp [intOf]; omega
                · have q6 : ((z.toNat : Int) != 93) = true := by simp; omega
                  have Hr2 : Hid (parseL s.data.toList = ([], 60, (k : Int) + 1)) := Lib.hid (by
                    rw [Hrun.out, Hdr.out, run_none]
                    rw [Hsl.out, sec_bad hzl (by rintro rfl; exact hz93 rfl)]
                    rfl)
                  clear hz93 hzl hRl
                  go_wp2_with fail
                  go_ret3
                  exact ⟨⟨_, by rw [Hr2.out]; rfl, .inl ⟨by rw [Hr2.out], rfl⟩⟩, then_bel Hb.out (Hbel.out)⟩
            · have q4 : ((b'.toNat : Int) == 91) = false := by simp; omega
              have Hgl := Lib.hid (lineT_giv (out := out) Htx.out (by rintro rfl; exact h59 (.inl rfl)) (by rintro rfl; exact h59 (.inr rfl)) (by rintro rfl; exact h91 rfl) Hsec.out)
              rw [← HTe.out] at Hgl
              have HG := Lib.hid fun W => given_any A T (by omega) (by omega) W
              obtain ⟨N1, hN1⟩ : ∃ N1 : ByteArray, N1 = B (refGiven A.data.toList T.data.toList).1 := ⟨_, rfl⟩
              obtain ⟨U1, hU1⟩ : ∃ U1 : ByteArray, U1 = B (refGiven A.data.toList T.data.toList).2.1 := ⟨_, rfl⟩
              obtain ⟨f1, hf1⟩ : ∃ f1 : Bool, f1 = (refGiven A.data.toList T.data.toList).2.2 := ⟨_, rfl⟩
              have HV : Hid (givenV A.data.toList T.data.toList = .tuple #[.string N1, .string U1, .bool f1]) := Lib.hid (by unfold givenV; rw [hN1, hU1, hf1])
              have hN1l : N1.data.toList = (refGiven A.data.toList T.data.toList).1 := by rw [hN1, B_list]
              rw [← hf1, ← hN1l] at Hgl
              have HN1 := Lib.hid hN1l
              have HU1 : Hid (U1.data.toList = (refGiven A.data.toList T.data.toList).2.1) := Lib.hid (by rw [hU1, B_list])
              clear h59 h91 hN1 hU1 hf1 hN1l
              have HTh := Lib.hid fun (W : World) (hW : Below wr.heap.size wr W) => there_any p n c out N1 (by omega) W ((own_lns Hown.out).later hW)
              cases hth : there out N1.data.toList with
              | true =>
                have Hr2 : Hid (parseL s.data.toList = ([], 60, (k : Int) + 1)) := Lib.hid (by
                  rw [Hrun.out, Hdr.out, run_none]
                  rw [Hgl.out, hth, if_neg (by simp)])
                have Hth := Lib.hid hth
                clear hth
                cases f1
                all_goals
                  go_wp2_with fail
                  refine (HG.out _).mono ?_
                  rintro e w3 ⟨rfl, hb3⟩
                  rw [HV.out]
                  have Hb3 := Lib.hid hb3
                  clear hb3
                  go_wp2_with fail
                  refine (HTh.out _ Hb3.out).mono ?_
                  rintro e w4 ⟨rfl, rfl⟩
                  rw [Hth.out]
                  go_wp2_with fail
                  go_ret3
                  exact ⟨⟨_, by rw [Hr2.out]; rfl, .inl ⟨by rw [Hr2.out], rfl⟩⟩, then_bel Hb.out (then_bel Hbel.out Hb3.out)⟩
              | false =>
                have Hth := Lib.hid hth
                cases f1
                · have Hr2 : Hid (parseL s.data.toList = ([], 60, (k : Int) + 1)) := Lib.hid (by
                    rw [Hrun.out, Hdr.out, run_none]
                    rw [Hgl.out, if_neg (by simp)])
                  clear hth
                  go_wp2_with fail
                  refine (HG.out _).mono ?_
                  rintro e w3 ⟨rfl, hb3⟩
                  rw [HV.out]
                  have Hb3 := Lib.hid hb3
                  clear hb3
                  go_wp2_with fail
                  refine (HTh.out _ Hb3.out).mono ?_
                  rintro e w4 ⟨rfl, rfl⟩
                  rw [Hth.out]
                  go_wp2_with fail
                  go_ret3
                  exact ⟨⟨_, by rw [Hr2.out]; rfl, .inl ⟨by rw [Hr2.out], rfl⟩⟩, then_bel Hb.out (then_bel Hbel.out Hb3.out)⟩
                · have Hr2 : Hid (parseL s.data.toList = runL (k + 1) A.data.toList (out ++ [⟨N1.data.toList, U1.data.toList, (k : Int) + 1⟩]) (PS.drop (k + 1))) := Lib.hid (by
                    rw [Hrun.out, Hdr.out, run_new (a' := A.data.toList) (n := N1.data.toList) (t := U1.data.toList)]
                    rw [Hgl.out, hth, if_pos ⟨rfl, rfl⟩, HU1.out])
                  clear hth
                  go_wp2_with fail
                  refine (HG.out _).mono ?_
                  rintro e w3 ⟨rfl, hb3⟩
                  rw [HV.out]
                  have hz3 := hb3.size
                  have Hb3 := Lib.hid (then_bel Hbel.out hb3)
                  have Hown3 := Lib.hid (ls.own_kept Hown.out hb3)
                  have Hb3' := Lib.hid hb3
                  clear hb3
                  go_wp2_with fail
                  refine (HTh.out _ Hb3'.out).mono ?_
                  rintro e w4 ⟨rfl, rfl⟩
                  rw [Hth.out]
                  focus
                    go_wp2_with (at_builtin; go_must (refine wpList_append_k rfl _ _ 27 rfl 35 i0 _ 3 40 Tryd.underlying27 hi hz0 hz1 hz2 rfl (by omega) _ (by rfl) (by rfl) w1.heap.size _ n _ (by rfl) Hown3.out (by simp [Value.oneCell']) (by omega) (by omega) (by omega) ?_))
                  intro g' cap' w5 hown5 hgrow hat hz5 hlt5
                  have Hown5 := Lib.hid (lns_snoc (x := ⟨N1.data.toList, U1.data.toList, (k : Int) + 1⟩) (B_of N1).symm (B_of U1).symm hown5)
                  have HB5 := Lib.hid (below_grown_own Hb3.out Hown3.out hgrow (by omega))
                  clear hown5 hgrow hat hlt5
                  go_wp2_with fail
                  go_roundw
                  case rel => exact ⟨k + 1, n + 1, A, _, some ⟨g', 0, none⟩, cap', by omega, by go_num, rfl, hA, Hsec.out, by rw [List.length_append, ← Hn.out]; rfl, by omega, rfl, Hown5.out, Hr2.out, HB5.out⟩
                  case measure => simp [intOf]; omega
      · obtain rfl : k = N := by omega
        have Hr2 : Hid (parseL s.data.toList = (out, 0, 0)) := Lib.hid (by rw [Hrun.out, List.drop_eq_nil_of_le (by rw [← HN.out]; exact Nat.le_refl _)]; rfl)
        go_wp2_with fail
        go_ret3
        refine ⟨⟨.slice p n c, by rw [Hr2.out]; rfl, ?_⟩, then_bel Hb.out Hbel.out⟩
        rw [Hr2.out]
        exact (own_new Hown.out).mono hzw
  · have Hr2 : Hid (parseL s.data.toList = ([], 61, 0)) := Lib.hid (by unfold parseL; rw [if_neg (by rw [toList_len]; exact hbig)])
    have hbig' : 8000 < s.size := by omega
    clear hbig
    go_enter Tryd.func34, Tryd.ntmps34
    go_wp2_with fail
    go_ret3
    exact ⟨⟨_, by rw [Hr2.out]; rfl, .inl ⟨by rw [Hr2.out], rfl⟩⟩, Below.refl _ _⟩
end Go.Proofs.YtkbamhecbfocbaaDoor.ini
