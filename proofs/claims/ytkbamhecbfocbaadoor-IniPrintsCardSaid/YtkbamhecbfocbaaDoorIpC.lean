/- The reference's Print of chapter 6 returns the plain function. Conditions: the lengths are in Go's bounds. -/
import Derived.Test.YtkbamhecbfocbaaDoorIpB
import Derived.Test.YtkbamhecbfocbaaDoorLib3
import Derived.BigQuiet
import Derived.Deep.QuietTactic
namespace Go.Proofs.YtkbamhecbfocbaaDoor.ini
open Go.ChangeShapes Go.WideShapes Go.ChangeAt Go.RowKit gl

theorem Lns.take {w : World} {p : Option Addr} {m c k : Nat} {l : List Ln} (h : Lns w (.slice p m c) l) (hk : k ≤ m) : Lns w (.slice p k c) (l.take k) := by
  obtain ⟨p', c', he, hc, h⟩ := h
  cases he
  have hl : (l.take k).length = k := by simp; omega
  refine ⟨p, c, by rw [hl], by omega, ?_⟩
  rcases h with rfl | ⟨b, o, hp, hlt, hat⟩
  · exact .inl (by simp)
  · refine .inr ⟨b, o, hp, hlt, fun j x hx i u hu => hat j x ?_ i u hu⟩
    rw [List.getElem?_take] at hx
    split at hx
    · exact hx
    · cases hx
theorem bareL_eq (t : List UInt8) : bareL t = (bareR t && !t.isEmpty && decide (tri t = t)) := by
  unfold bareL bareR
  cases t.isEmpty <;> cases prn t <;> cases decide (t.head? ≠ some 34) <;> rfl
theorem text_q {t : List UInt8} (h : bareR t = false ∨ t = [] ∨ tri t ≠ t) : textL t = quoteL t := by
  unfold textL
  rw [bareL_eq]
  rcases h with h | h | h
  · rw [h]; rfl
  · rw [h]; simp
  · simp [h]
theorem text_b {t : List UInt8} (h : bareR t = true) (h2 : t ≠ []) (h3 : tri t = t) : textL t = t := by
  unfold textL
  rw [bareL_eq, h, decide_eq_true h3]
  cases t with
  | nil => exact absurd rfl h2
  | cons => rfl

set_option maxHeartbeats 8000000 in
set_option maxRecDepth 100000 in
theorem refPrint_any (p : Option Addr) (m c : Nat) (l : List Ln) (w : World) (hm : m ≤ 1073741824) (hl : ∀ x ∈ l, x.name.length ≤ 2147483647 ∧ x.text.length ≤ 2147483647) (h : Lns w (.slice p m c) l) :
    Calls Tryd.prog 15 #[.slice p m c] w fun e w' => e = .returned (.tuple #[.string (B (printL l).1), .int .i64 (printL l).2]) ∧ Below w.heap.size w w' := by
  obtain ⟨i0, hi, hz0, hz1, hz2⟩ := info_parts Tryd.infoByte
  obtain ⟨hlen, hmc, hptr⟩ := h.ptr
  have H := Lib.hid h
  have Hl := Lib.hid hl
  have Hptr := Lib.hid hptr
  have Hlen := Lib.hid hlen
  clear h hl hptr hlen
  go_enter Tryd.func15, Tryd.ntmps15
  go_wp2_with fail
  go_loopw [4, 5] (fun bv' iv wr => ∃ (k n : Nat) (O : List UInt8) (q : Option Addr) (cq : Nat), k ≤ m ∧ iv = .int .i64 k ∧ bv' = .slice q n cq ∧ n = O.length ∧ n ≤ 8000 ∧ Hid (wr.ownsRow w.heap.size 5 1 (.slice q n cq) n (Lib.byteCells O)) ∧ Hid (printL l = prL (l.take k) O (l.drop k)) ∧ Hid (Below w.heap.size w wr)) (fun _ i _ => m - (intOf i).toNat)
  case atStart => exact ⟨0, 0, [], none, 0, by omega, rfl, rfl, rfl, by omega, Lib.hid ⟨rfl, .inl ⟨rfl, rfl⟩⟩, Lib.hid rfl, Lib.hid (Below.refl _ _)⟩
  case round =>
    obtain ⟨k, n, O, q, cq, hk, rfl, rfl, hn, hn8, Ho, Hpr, Hb⟩ := hrel
    have HO := Lib.hid hn
    have hsz := Hb.out.size
    have hncq : n ≤ cq := by
      rcases Ho.out.2 with ⟨h, h0⟩ | ⟨g, cap, cur, h, _, _, h2, _⟩
      · cases h; omega
      · cases h; exact h2
    clear hn
    by_cases hlt : k < m
    · obtain ⟨bp, o, rfl, hbl⟩ := Hptr.out (by omega)
      obtain ⟨x, hx⟩ : ∃ x, l[k]? = some x := ⟨_, List.getElem?_eq_getElem (by rw [Hlen.out]; exact hlt)⟩
      have Hr0 := Lib.hid (H.out.later (w' := wr) Hb.out)
      obtain ⟨c0, c1, _⟩ := Hr0.out.cells hx
      obtain ⟨hn63, ht63⟩ := Hl.out x (List.mem_of_getElem? hx)
      have Hdr := Lib.hid (drop_get hx)
      have Htk := Lib.hid (take_snoc hx)
      have hbr0 : bp < wr.heap.size := by omega
      obtain ⟨N, hN⟩ : ∃ N, N = B x.name := ⟨_, rfl⟩
      obtain ⟨X, hX⟩ : ∃ X, X = B x.text := ⟨_, rfl⟩
      have HN : Hid (N.data.toList = x.name) := Lib.hid (by rw [hN, B_list])
      have HX : Hid (X.data.toList = x.text) := Lib.hid (by rw [hX, B_list])
      have hNs : N.size ≤ 2147483647 := by rw [hN, B_size]; exact hn63
      have hXs : X.size ≤ 2147483647 := by rw [hX, B_size]; exact ht63
      have HXl : Hid (X.size = x.text.length) := Lib.hid (by rw [hX, B_size])
      rw [← hN] at c0
      rw [← hX] at c1
      have HNB := Lib.hid hN
      have HT : Hid (∀ W, (∃ d, W = wr.drewN d) → Calls Tryd.prog 37 #[.slice (some ⟨bp, o, none⟩) k c, .string N] W fun e w' => e = .returned (.bool (there (l.take k) x.name)) ∧ ∃ d, w' = W.drewN d) := Lib.hid fun W hW => by
        obtain ⟨d, rfl⟩ := hW
        refine (there_any _ k c (l.take k) N (by omega) _ ((Hr0.out.take (by omega)).later (drewN_bel wr d))).mono fun e w' h => ?_
        obtain ⟨h1, h2⟩ := h
        rw [HN.out] at h1
        exact ⟨h1, 0, h2.symm⟩
      have hthv : ∃ thv, thv = there (l.take k) x.name := ⟨_, rfl⟩
      obtain ⟨thv, hthv⟩ := hthv
      rw [← hthv] at HT
      have Hthv := Lib.hid hthv
      clear hx hN hX hn63 ht63 hthv
      go_wp2_with fail
      refine (refIsName_any N (by omega) _).mono ?_
      rintro e w0 ⟨rfl, rfl⟩
      obtain ⟨nmv, hnmv⟩ : ∃ nmv, nmv = nameL N.data.toList := ⟨_, rfl⟩
      rw [← hnmv]
      have Hnmv := Lib.hid hnmv
      clear hnmv
      go_wp2_with fail
      go_quiet ((go_at_call 37; exact Calls.quiet_of (HT.out _ (by first | exact ⟨0, rfl⟩ | exact ⟨_, rfl⟩))))
      obtain ⟨w4, hw4⟩ : ∃ w4, w4 = wr.drewN nq := ⟨_, rfl⟩
      rw [← hw4]
      have hb4 : Below wr.heap.size wr w4 := by rw [hw4]; exact drewN_bel wr nq
      have d0 := (hb4.cell (p := ⟨bp, o + k * 3, none⟩) hbr0).trans c0
      have d1 := (hb4.cell (p := ⟨bp, o + k * 3 + 1, none⟩) hbr0).trans c1
      have HB4 := Lib.hid (then_bel Hb.out hb4)
      have HO4 := Lib.hid (ls.own_kept Ho.out hb4)
      have hz4 : wr.heap.size ≤ w4.heap.size := hb4.size
      have hbr : bp < w4.heap.size := by omega
      clear hb4 hw4 c0 c1 HT
      cases nmv with
      | false =>
        have Hr : Hid (printL l = ([], 1)) := Lib.hid (by rw [Hpr.out, Hdr.out]; exact prL_bad (may_no1 (by rw [← HN.out]; exact Hnmv.out.symm)))
        go_wp2_with fail
        go_returns
        rw [Hr.out]
        exact ⟨rfl, HB4.out⟩
      | true =>
        have HN32 : Hid (N.size ≤ 32) := Lib.hid (by have := name_len Hnmv.out.symm; rwa [toList_len] at this)
        have Hnx : Hid (nameL x.name = true) := Lib.hid (by rw [← HN.out]; exact Hnmv.out.symm)
        cases thv with
        | true =>
          have Hr : Hid (printL l = ([], 1)) := Lib.hid (by rw [Hpr.out, Hdr.out]; exact prL_bad (may_no2 Hthv.out.symm))
          go_wp2_with fail
          go_returns
          rw [Hr.out]
          exact ⟨rfl, HB4.out⟩
        | false =>
          by_cases hx2 : 200 < X.size
          · have Hr : Hid (printL l = ([], 1)) := Lib.hid (by rw [Hpr.out, Hdr.out]; exact prL_bad (may_no3 (by rw [← HXl.out]; omega)))
            have hx3 : (200 : Int) < (X.size : Int) := by omega
            clear hx2
            go_wp2_with fail
            go_returns
            rw [Hr.out]
            exact ⟨rfl, HB4.out⟩
          · have Hx2 : Hid (x.text.length ≤ 200) := Lib.hid (by rw [← HXl.out]; omega)
            have Hmay := Lib.hid (may_yes Hnx.out Hthv.out.symm Hx2.out)
            have hx3 : ¬ (200 : Int) < (X.size : Int) := by omega
            go_wp2_with fail
            refine (bareR_any X (by omega) _).mono ?_
            rintro e w0 ⟨rfl, rfl⟩
            cases hbr2 : bareR X.data.toList with
            | false =>
              have Hbr2 : Hid (bareR x.text = false) := Lib.hid (by rw [← HX.out]; exact hbr2)
              clear hbr2
              go_wp2_with fail
              refine (refQuote_any X (by omega) _).mono ?_
              rintro e w5 ⟨rfl, hb5⟩
              have HB5 := Lib.hid (then_bel HB4.out hb5)
              have HO5 := Lib.hid (ls.own_kept HO4.out hb5)
              have g0 := (hb5.cell (p := ⟨bp, o + k * 3, none⟩) hbr).trans d0
              have hz54 : w4.heap.size ≤ w5.heap.size := hb5.size
              have hbr5 : bp < w5.heap.size := by omega
              obtain ⟨TX, hTX⟩ : ∃ TX : ByteArray, TX = ⟨(quoteL X.data.toList).toArray⟩ := ⟨_, rfl⟩
              have HTX : Hid (TX.data.toList = textL x.text) := Lib.hid (by rw [text_q (by exact .inl Hbr2.out), hTX, HX.out])
              rw [← hTX]
              clear hb5 hTX
              obtain ⟨S3, hS3⟩ : ∃ S3 : ByteArray, S3 = ((N ++ (⟨#[32, 61, 32]⟩ : ByteArray)) ++ TX) ++ (⟨#[10]⟩ : ByteArray) := ⟨_, rfl⟩
              have hS3l : S3.data.toList = lineOut x := by rw [hS3, HNB.out]; exact lineOut_ba x TX HTX.out
              have hN32 : N.size ≤ 32 := HN32.out
              have hTX8 : TX.size ≤ 802 := by have h2 := text_len Hx2.out; rw [← toList_len TX, HTX.out]; exact h2
              have hS3z : S3.size ≤ 1000 := by
                rw [hS3]
                simp only [ByteArray.size_append]
                have : (⟨#[32, 61, 32]⟩ : ByteArray).size = 3 := rfl
                have : (⟨#[10]⟩ : ByteArray).size = 1 := rfl
                omega
              have hadd1 : ∀ wx : World, (Op.stringOp .add N ⟨#[32, 61, 32]⟩).run Tryd.prog wx = .ok (.string (N ++ (⟨#[32, 61, 32]⟩ : ByteArray))) wx := fun wx => run_string_add_sum wx _ _ (by have : (⟨#[32, 61, 32]⟩ : ByteArray).size = 3 := rfl; omega)
              have hadd2 : ∀ wx : World, (Op.stringOp .add (N ++ (⟨#[32, 61, 32]⟩ : ByteArray)) TX).run Tryd.prog wx = .ok (.string ((N ++ (⟨#[32, 61, 32]⟩ : ByteArray)) ++ TX)) wx := fun wx => run_string_add_sum wx _ _ (by have : (⟨#[32, 61, 32]⟩ : ByteArray).size = 3 := rfl; simp only [ByteArray.size_append]; omega)
              have hadd3 : ∀ wx : World, (Op.stringOp .add ((N ++ (⟨#[32, 61, 32]⟩ : ByteArray)) ++ TX) ⟨#[10]⟩).run Tryd.prog wx = .ok (.string S3) wx := fun wx => by rw [hS3]; exact run_string_add_sum wx _ _ (by have : (⟨#[32, 61, 32]⟩ : ByteArray).size = 3 := rfl; have : (⟨#[10]⟩ : ByteArray).size = 1 := rfl; simp only [ByteArray.size_append]; omega)
              generalize N ++ (⟨#[32, 61, 32]⟩ : ByteArray) = S1 at *
              generalize S1 ++ TX = S2 at *
              have HS3 := Lib.hid hS3l
              have hz5 := HB5.out.size
              clear hS3 hS3l
              focus
                go_wp2_with (at_builtin; go_must (refine wpList_append_str rfl (.tmp 62) (.tmp 71) 32 9 rfl w.heap.size 5 i0 Tryd.underlying32 Tryd.underlying9 hi hz0 hz1 hz2 _ n _ (by rfl) HO5.out S3 (by rfl) (by unfold maxLen; omega) (by omega) (by omega) ?_))
              intro v6 w6 hown6 hgrow6 hat6
              obtain ⟨q6, n6, c6, rfl, hn6, hnc6⟩ : ∃ (q : Option Addr) (n6 c : Nat), v6 = .slice q n6 c ∧ n6 = n + S3.size ∧ n6 ≤ c := by
                rcases hown6.2 with ⟨h, h0⟩ | ⟨g, cap, cur, h, _, _, h2, _⟩
                · exact ⟨none, 0, 0, h, by omega, Nat.le_refl _⟩
                · exact ⟨_, _, cap, h, rfl, h2⟩
              rw [← hn6] at hown6
              have hown7 : w6.ownsRow w.heap.size 5 1 (.slice q6 n6 c6) n6 (Lib.byteCells (O ++ lineOut x)) := by
                rw [bytes_str, HS3.out] at hown6
                exact hown6
              have HO6 := Lib.hid hown7
              have HB6 := Lib.hid (below_grown_own HB5.out HO5.out hgrow6 hz5)
              have Hnl : Hid ((O ++ lineOut x).length = n6) := Lib.hid (by rw [hn6, List.length_append, ← HS3.out, toList_len, HO.out])
              have hn9 : n6 ≤ 9000 := by omega
              clear hown6 hown7 hgrow6 hat6 hadd1 hadd2 hadd3 hn6
              by_cases hlong : 8000 < n6
              · have Hr : Hid (printL l = ([], 1)) := Lib.hid (by rw [Hpr.out, Hdr.out]; exact prL_long (by rw [Hnl.out]; omega))
                have hl2 : (8000 : Int) < (n6 : Int) := by omega
                go_wp2_with fail
                go_returns
                rw [Hr.out]
                exact ⟨rfl, HB6.out⟩
              · have hl2 : ¬ (8000 : Int) < (n6 : Int) := by omega
                have Hp2 : Hid (printL l = prL (l.take (k + 1)) (O ++ lineOut x) (l.drop (k + 1))) := Lib.hid (by rw [Hpr.out, Hdr.out, prL_step Hmay.out (by rw [Hnl.out]; omega), Htk.out])
                go_wp2_with fail
                go_roundw
                case rel => exact ⟨k + 1, n6, O ++ lineOut x, q6, c6, by omega, by go_num, rfl, Hnl.out.symm, by omega, HO6, Hp2, HB6⟩
                case measure => simp [intOf]; omega
            | true =>
              have Hbr2 : Hid (bareR x.text = true) := Lib.hid (by rw [← HX.out]; exact hbr2)
              clear hbr2
              by_cases h0 : X.data.toList = []
              · have H0 : Hid (x.text = []) := Lib.hid (by rw [← HX.out]; exact h0)
                have q1 := seq_lit h0
                clear h0
                go_wp2_with fail
                refine (refQuote_any X (by omega) _).mono ?_
                rintro e w5 ⟨rfl, hb5⟩
                have HB5 := Lib.hid (then_bel HB4.out hb5)
                have HO5 := Lib.hid (ls.own_kept HO4.out hb5)
                have g0 := (hb5.cell (p := ⟨bp, o + k * 3, none⟩) hbr).trans d0
                have hz54 : w4.heap.size ≤ w5.heap.size := hb5.size
                have hbr5 : bp < w5.heap.size := by omega
                obtain ⟨TX, hTX⟩ : ∃ TX : ByteArray, TX = ⟨(quoteL X.data.toList).toArray⟩ := ⟨_, rfl⟩
                have HTX : Hid (TX.data.toList = textL x.text) := Lib.hid (by rw [text_q (by exact .inr (.inl H0.out)), hTX, HX.out])
                rw [← hTX]
                clear hb5 hTX
                obtain ⟨S3, hS3⟩ : ∃ S3 : ByteArray, S3 = ((N ++ (⟨#[32, 61, 32]⟩ : ByteArray)) ++ TX) ++ (⟨#[10]⟩ : ByteArray) := ⟨_, rfl⟩
                have hS3l : S3.data.toList = lineOut x := by rw [hS3, HNB.out]; exact lineOut_ba x TX HTX.out
                have hN32 : N.size ≤ 32 := HN32.out
                have hTX8 : TX.size ≤ 802 := by have h2 := text_len Hx2.out; rw [← toList_len TX, HTX.out]; exact h2
                have hS3z : S3.size ≤ 1000 := by
                  rw [hS3]
                  simp only [ByteArray.size_append]
                  have : (⟨#[32, 61, 32]⟩ : ByteArray).size = 3 := rfl
                  have : (⟨#[10]⟩ : ByteArray).size = 1 := rfl
                  omega
                have hadd1 : ∀ wx : World, (Op.stringOp .add N ⟨#[32, 61, 32]⟩).run Tryd.prog wx = .ok (.string (N ++ (⟨#[32, 61, 32]⟩ : ByteArray))) wx := fun wx => run_string_add_sum wx _ _ (by have : (⟨#[32, 61, 32]⟩ : ByteArray).size = 3 := rfl; omega)
                have hadd2 : ∀ wx : World, (Op.stringOp .add (N ++ (⟨#[32, 61, 32]⟩ : ByteArray)) TX).run Tryd.prog wx = .ok (.string ((N ++ (⟨#[32, 61, 32]⟩ : ByteArray)) ++ TX)) wx := fun wx => run_string_add_sum wx _ _ (by have : (⟨#[32, 61, 32]⟩ : ByteArray).size = 3 := rfl; simp only [ByteArray.size_append]; omega)
                have hadd3 : ∀ wx : World, (Op.stringOp .add ((N ++ (⟨#[32, 61, 32]⟩ : ByteArray)) ++ TX) ⟨#[10]⟩).run Tryd.prog wx = .ok (.string S3) wx := fun wx => by rw [hS3]; exact run_string_add_sum wx _ _ (by have : (⟨#[32, 61, 32]⟩ : ByteArray).size = 3 := rfl; have : (⟨#[10]⟩ : ByteArray).size = 1 := rfl; simp only [ByteArray.size_append]; omega)
                generalize N ++ (⟨#[32, 61, 32]⟩ : ByteArray) = S1 at *
                generalize S1 ++ TX = S2 at *
                have HS3 := Lib.hid hS3l
                have hz5 := HB5.out.size
                clear hS3 hS3l
                focus
                  go_wp2_with (at_builtin; go_must (refine wpList_append_str rfl (.tmp 62) (.tmp 71) 32 9 rfl w.heap.size 5 i0 Tryd.underlying32 Tryd.underlying9 hi hz0 hz1 hz2 _ n _ (by rfl) HO5.out S3 (by rfl) (by unfold maxLen; omega) (by omega) (by omega) ?_))
                intro v6 w6 hown6 hgrow6 hat6
                obtain ⟨q6, n6, c6, rfl, hn6, hnc6⟩ : ∃ (q : Option Addr) (n6 c : Nat), v6 = .slice q n6 c ∧ n6 = n + S3.size ∧ n6 ≤ c := by
                  rcases hown6.2 with ⟨h, h0⟩ | ⟨g, cap, cur, h, _, _, h2, _⟩
                  · exact ⟨none, 0, 0, h, by omega, Nat.le_refl _⟩
                  · exact ⟨_, _, cap, h, rfl, h2⟩
                rw [← hn6] at hown6
                have hown7 : w6.ownsRow w.heap.size 5 1 (.slice q6 n6 c6) n6 (Lib.byteCells (O ++ lineOut x)) := by
                  rw [bytes_str, HS3.out] at hown6
                  exact hown6
                have HO6 := Lib.hid hown7
                have HB6 := Lib.hid (below_grown_own HB5.out HO5.out hgrow6 hz5)
                have Hnl : Hid ((O ++ lineOut x).length = n6) := Lib.hid (by rw [hn6, List.length_append, ← HS3.out, toList_len, HO.out])
                have hn9 : n6 ≤ 9000 := by omega
                clear hown6 hown7 hgrow6 hat6 hadd1 hadd2 hadd3 hn6
                by_cases hlong : 8000 < n6
                · have Hr : Hid (printL l = ([], 1)) := Lib.hid (by rw [Hpr.out, Hdr.out]; exact prL_long (by rw [Hnl.out]; omega))
                  have hl2 : (8000 : Int) < (n6 : Int) := by omega
                  go_wp2_with fail
                  go_returns
                  rw [Hr.out]
                  exact ⟨rfl, HB6.out⟩
                · have hl2 : ¬ (8000 : Int) < (n6 : Int) := by omega
                  have Hp2 : Hid (printL l = prL (l.take (k + 1)) (O ++ lineOut x) (l.drop (k + 1))) := Lib.hid (by rw [Hpr.out, Hdr.out, prL_step Hmay.out (by rw [Hnl.out]; omega), Htk.out])
                  go_wp2_with fail
                  go_roundw
                  case rel => exact ⟨k + 1, n6, O ++ lineOut x, q6, c6, by omega, by go_num, rfl, Hnl.out.symm, by omega, HO6, Hp2, HB6⟩
                  case measure => simp [intOf]; omega
              · have H0 : Hid (x.text ≠ []) := Lib.hid (by rw [← HX.out]; exact h0)
                have q1 := seq_nlit h0
                clear h0
                go_wp2_with fail
                refine (trimmed_any X (by omega) _).mono ?_
                rintro e w0 ⟨rfl, rfl⟩
                obtain ⟨T, hT⟩ : ∃ T : ByteArray, T = B (tri X.data.toList) := ⟨_, rfl⟩
                rw [← hT]
                by_cases ht : tri x.text = x.text
                · have hTX0 : T = X := by rw [hT, HX.out, ht, ← HX.out, B_of]
                  have q5 : (T.toList == X.toList) = true := seq_true hTX0
                  have Ht := Lib.hid ht
                  clear hT ht hTX0
                  obtain ⟨TX, hTX⟩ : ∃ TX : ByteArray, TX = X := ⟨_, rfl⟩
                  have HTX : Hid (TX.data.toList = textL x.text) := Lib.hid (by rw [text_b Hbr2.out H0.out Ht.out, hTX, HX.out])
                  have HB5 := HB4
                  have HO5 := HO4
                  have hz54 : w4.heap.size ≤ w4.heap.size := Nat.le_refl _
                  subst hTX
                  obtain ⟨S3, hS3⟩ : ∃ S3 : ByteArray, S3 = ((N ++ (⟨#[32, 61, 32]⟩ : ByteArray)) ++ TX) ++ (⟨#[10]⟩ : ByteArray) := ⟨_, rfl⟩
                  have hS3l : S3.data.toList = lineOut x := by rw [hS3, HNB.out]; exact lineOut_ba x TX HTX.out
                  have hN32 : N.size ≤ 32 := HN32.out
                  have hTX8 : TX.size ≤ 802 := by have h2 := text_len Hx2.out; rw [← toList_len TX, HTX.out]; exact h2
                  have hS3z : S3.size ≤ 1000 := by
                    rw [hS3]
                    simp only [ByteArray.size_append]
                    have : (⟨#[32, 61, 32]⟩ : ByteArray).size = 3 := rfl
                    have : (⟨#[10]⟩ : ByteArray).size = 1 := rfl
                    omega
                  have hadd1 : ∀ wx : World, (Op.stringOp .add N ⟨#[32, 61, 32]⟩).run Tryd.prog wx = .ok (.string (N ++ (⟨#[32, 61, 32]⟩ : ByteArray))) wx := fun wx => run_string_add_sum wx _ _ (by have : (⟨#[32, 61, 32]⟩ : ByteArray).size = 3 := rfl; omega)
                  have hadd2 : ∀ wx : World, (Op.stringOp .add (N ++ (⟨#[32, 61, 32]⟩ : ByteArray)) TX).run Tryd.prog wx = .ok (.string ((N ++ (⟨#[32, 61, 32]⟩ : ByteArray)) ++ TX)) wx := fun wx => run_string_add_sum wx _ _ (by have : (⟨#[32, 61, 32]⟩ : ByteArray).size = 3 := rfl; simp only [ByteArray.size_append]; omega)
                  have hadd3 : ∀ wx : World, (Op.stringOp .add ((N ++ (⟨#[32, 61, 32]⟩ : ByteArray)) ++ TX) ⟨#[10]⟩).run Tryd.prog wx = .ok (.string S3) wx := fun wx => by rw [hS3]; exact run_string_add_sum wx _ _ (by have : (⟨#[32, 61, 32]⟩ : ByteArray).size = 3 := rfl; have : (⟨#[10]⟩ : ByteArray).size = 1 := rfl; simp only [ByteArray.size_append]; omega)
                  generalize N ++ (⟨#[32, 61, 32]⟩ : ByteArray) = S1 at *
                  generalize S1 ++ TX = S2 at *
                  have HS3 := Lib.hid hS3l
                  have hz5 := HB5.out.size
                  clear hS3 hS3l
                  focus
                    go_wp2_with (at_builtin; go_must (refine wpList_append_str rfl (.tmp 62) (.tmp 71) 32 9 rfl w.heap.size 5 i0 Tryd.underlying32 Tryd.underlying9 hi hz0 hz1 hz2 _ n _ (by rfl) HO5.out S3 (by rfl) (by unfold maxLen; omega) (by omega) (by omega) ?_))
                  intro v6 w6 hown6 hgrow6 hat6
                  obtain ⟨q6, n6, c6, rfl, hn6, hnc6⟩ : ∃ (q : Option Addr) (n6 c : Nat), v6 = .slice q n6 c ∧ n6 = n + S3.size ∧ n6 ≤ c := by
                    rcases hown6.2 with ⟨h, h0⟩ | ⟨g, cap, cur, h, _, _, h2, _⟩
                    · exact ⟨none, 0, 0, h, by omega, Nat.le_refl _⟩
                    · exact ⟨_, _, cap, h, rfl, h2⟩
                  rw [← hn6] at hown6
                  have hown7 : w6.ownsRow w.heap.size 5 1 (.slice q6 n6 c6) n6 (Lib.byteCells (O ++ lineOut x)) := by
                    rw [bytes_str, HS3.out] at hown6
                    exact hown6
                  have HO6 := Lib.hid hown7
                  have HB6 := Lib.hid (below_grown_own HB5.out HO5.out hgrow6 hz5)
                  have Hnl : Hid ((O ++ lineOut x).length = n6) := Lib.hid (by rw [hn6, List.length_append, ← HS3.out, toList_len, HO.out])
                  have hn9 : n6 ≤ 9000 := by omega
                  clear hown6 hown7 hgrow6 hat6 hadd1 hadd2 hadd3 hn6
                  by_cases hlong : 8000 < n6
                  · have Hr : Hid (printL l = ([], 1)) := Lib.hid (by rw [Hpr.out, Hdr.out]; exact prL_long (by rw [Hnl.out]; omega))
                    have hl2 : (8000 : Int) < (n6 : Int) := by omega
                    go_wp2_with fail
                    go_returns
                    rw [Hr.out]
                    exact ⟨rfl, HB6.out⟩
                  · have hl2 : ¬ (8000 : Int) < (n6 : Int) := by omega
                    have Hp2 : Hid (printL l = prL (l.take (k + 1)) (O ++ lineOut x) (l.drop (k + 1))) := Lib.hid (by rw [Hpr.out, Hdr.out, prL_step Hmay.out (by rw [Hnl.out]; omega), Htk.out])
                    go_wp2_with fail
                    go_roundw
                    case rel => exact ⟨k + 1, n6, O ++ lineOut x, q6, c6, by omega, by go_num, rfl, Hnl.out.symm, by omega, HO6, Hp2, HB6⟩
                    case measure => simp [intOf]; omega
                · have hTX0 : T ≠ X := fun e => ht (by have h2 : T.data.toList = X.data.toList := by rw [e]
                                                       rw [hT, B_list, HX.out] at h2; exact h2)
                  have q5 : (T.toList == X.toList) = false := seq_false hTX0
                  have Ht := Lib.hid ht
                  clear hT ht hTX0
                  go_wp2_with fail
                  refine (refQuote_any X (by omega) _).mono ?_
                  rintro e w5 ⟨rfl, hb5⟩
                  have HB5 := Lib.hid (then_bel HB4.out hb5)
                  have HO5 := Lib.hid (ls.own_kept HO4.out hb5)
                  have g0 := (hb5.cell (p := ⟨bp, o + k * 3, none⟩) hbr).trans d0
                  have hz54 : w4.heap.size ≤ w5.heap.size := hb5.size
                  have hbr5 : bp < w5.heap.size := by omega
                  obtain ⟨TX, hTX⟩ : ∃ TX : ByteArray, TX = ⟨(quoteL X.data.toList).toArray⟩ := ⟨_, rfl⟩
                  have HTX : Hid (TX.data.toList = textL x.text) := Lib.hid (by rw [text_q (by exact .inr (.inr Ht.out)), hTX, HX.out])
                  rw [← hTX]
                  clear hb5 hTX
                  obtain ⟨S3, hS3⟩ : ∃ S3 : ByteArray, S3 = ((N ++ (⟨#[32, 61, 32]⟩ : ByteArray)) ++ TX) ++ (⟨#[10]⟩ : ByteArray) := ⟨_, rfl⟩
                  have hS3l : S3.data.toList = lineOut x := by rw [hS3, HNB.out]; exact lineOut_ba x TX HTX.out
                  have hN32 : N.size ≤ 32 := HN32.out
                  have hTX8 : TX.size ≤ 802 := by have h2 := text_len Hx2.out; rw [← toList_len TX, HTX.out]; exact h2
                  have hS3z : S3.size ≤ 1000 := by
                    rw [hS3]
                    simp only [ByteArray.size_append]
                    have : (⟨#[32, 61, 32]⟩ : ByteArray).size = 3 := rfl
                    have : (⟨#[10]⟩ : ByteArray).size = 1 := rfl
                    omega
                  have hadd1 : ∀ wx : World, (Op.stringOp .add N ⟨#[32, 61, 32]⟩).run Tryd.prog wx = .ok (.string (N ++ (⟨#[32, 61, 32]⟩ : ByteArray))) wx := fun wx => run_string_add_sum wx _ _ (by have : (⟨#[32, 61, 32]⟩ : ByteArray).size = 3 := rfl; omega)
                  have hadd2 : ∀ wx : World, (Op.stringOp .add (N ++ (⟨#[32, 61, 32]⟩ : ByteArray)) TX).run Tryd.prog wx = .ok (.string ((N ++ (⟨#[32, 61, 32]⟩ : ByteArray)) ++ TX)) wx := fun wx => run_string_add_sum wx _ _ (by have : (⟨#[32, 61, 32]⟩ : ByteArray).size = 3 := rfl; simp only [ByteArray.size_append]; omega)
                  have hadd3 : ∀ wx : World, (Op.stringOp .add ((N ++ (⟨#[32, 61, 32]⟩ : ByteArray)) ++ TX) ⟨#[10]⟩).run Tryd.prog wx = .ok (.string S3) wx := fun wx => by rw [hS3]; exact run_string_add_sum wx _ _ (by have : (⟨#[32, 61, 32]⟩ : ByteArray).size = 3 := rfl; have : (⟨#[10]⟩ : ByteArray).size = 1 := rfl; simp only [ByteArray.size_append]; omega)
                  generalize N ++ (⟨#[32, 61, 32]⟩ : ByteArray) = S1 at *
                  generalize S1 ++ TX = S2 at *
                  have HS3 := Lib.hid hS3l
                  have hz5 := HB5.out.size
                  clear hS3 hS3l
                  focus
                    go_wp2_with (at_builtin; go_must (refine wpList_append_str rfl (.tmp 62) (.tmp 71) 32 9 rfl w.heap.size 5 i0 Tryd.underlying32 Tryd.underlying9 hi hz0 hz1 hz2 _ n _ (by rfl) HO5.out S3 (by rfl) (by unfold maxLen; omega) (by omega) (by omega) ?_))
                  intro v6 w6 hown6 hgrow6 hat6
                  obtain ⟨q6, n6, c6, rfl, hn6, hnc6⟩ : ∃ (q : Option Addr) (n6 c : Nat), v6 = .slice q n6 c ∧ n6 = n + S3.size ∧ n6 ≤ c := by
                    rcases hown6.2 with ⟨h, h0⟩ | ⟨g, cap, cur, h, _, _, h2, _⟩
                    · exact ⟨none, 0, 0, h, by omega, Nat.le_refl _⟩
                    · exact ⟨_, _, cap, h, rfl, h2⟩
                  rw [← hn6] at hown6
                  have hown7 : w6.ownsRow w.heap.size 5 1 (.slice q6 n6 c6) n6 (Lib.byteCells (O ++ lineOut x)) := by
                    rw [bytes_str, HS3.out] at hown6
                    exact hown6
                  have HO6 := Lib.hid hown7
                  have HB6 := Lib.hid (below_grown_own HB5.out HO5.out hgrow6 hz5)
                  have Hnl : Hid ((O ++ lineOut x).length = n6) := Lib.hid (by rw [hn6, List.length_append, ← HS3.out, toList_len, HO.out])
                  have hn9 : n6 ≤ 9000 := by omega
                  clear hown6 hown7 hgrow6 hat6 hadd1 hadd2 hadd3 hn6
                  by_cases hlong : 8000 < n6
                  · have Hr : Hid (printL l = ([], 1)) := Lib.hid (by rw [Hpr.out, Hdr.out]; exact prL_long (by rw [Hnl.out]; omega))
                    have hl2 : (8000 : Int) < (n6 : Int) := by omega
                    go_wp2_with fail
                    go_returns
                    rw [Hr.out]
                    exact ⟨rfl, HB6.out⟩
                  · have hl2 : ¬ (8000 : Int) < (n6 : Int) := by omega
                    have Hp2 : Hid (printL l = prL (l.take (k + 1)) (O ++ lineOut x) (l.drop (k + 1))) := Lib.hid (by rw [Hpr.out, Hdr.out, prL_step Hmay.out (by rw [Hnl.out]; omega), Htk.out])
                    go_wp2_with fail
                    go_roundw
                    case rel => exact ⟨k + 1, n6, O ++ lineOut x, q6, c6, by omega, by go_num, rfl, Hnl.out.symm, by omega, HO6, Hp2, HB6⟩
                    case measure => simp [intOf]; omega
    · obtain rfl : k = m := by omega
      have hr : Hid (printL l = (O, 0)) := Lib.hid (by rw [Hpr.out, List.drop_eq_nil_of_le (by rw [Hlen.out]; exact Nat.le_refl _)]; rfl)
      go_wp2_with (refine wpList_string_of_own rfl 32 9 5 (.tmp 76) rfl w.heap.size _ _ _ (by rfl) Ho.out Tryd.underlying32 Tryd.underlying5 Tryd.underlying9 ?_)
      go_returns
      rw [hr.out]
      exact ⟨rfl, Hb.out⟩
end Go.Proofs.YtkbamhecbfocbaaDoor.ini
