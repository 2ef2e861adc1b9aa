/- ini.Print returns the plain function. Conditions: the lengths are in Go's bounds; the tables hold what the text lays. -/
import Derived.Test.YtkbamhecbfocbaaDoorIpA
import Derived.Test.YtkbamhecbfocbaaDoorInF
import Derived.Test.YtkbamhecbfocbaaDoorInU
import Derived.BigQuiet
import Derived.Deep.QuietTactic
import Derived.Carry
namespace Go.Proofs.YtkbamhecbfocbaaDoor.ini
open Go.ChangeShapes Go.WideShapes Go.ChangeAt Go.RowKit gl
open Go.Maps

/-- How often each name was given. -/
def Giv2 (D : DataW Unit) (done : List Ln) : Prop := IsMap D ∧ ∀ (n : List UInt8) (c : Int), D.atKey (.string n) (.lit (.int .i64 0)) = .lit (.int .i64 c) → (c = 0 ∧ there done n = false) ∨ (c = 1 ∧ there done n = true)
theorem giv2_nil : Giv2 (.map []) [] := ⟨⟨[], rfl⟩, fun n c h => by
  have : (DataW.map [] : DataW Unit).atKey (.string n) (.lit (.int .i64 0)) = .lit (.int .i64 0) := rfl
  rw [this] at h
  simp at h
  exact .inl ⟨h.symm, rfl⟩⟩
theorem giv2_put {D : DataW Unit} {out : List Ln} {x : Ln} (h : Giv2 D out) : Giv2 (D.put (.string x.name) (.lit (.int .i64 1))) (out ++ [x]) := by
  obtain ⟨hm, h⟩ := h
  refine ⟨hm.put _ _, fun n c hc => ?_⟩
  rw [there_snoc]
  by_cases hn : x.name = n
  · subst hn
    rw [atKey_put_same hm (by first | exact trivial | exact ⟨_, rfl⟩ | simp [WideAt.IsKeyLit])] at hc
    simp at hc
    exact .inr ⟨hc.symm, by simp⟩
  · rw [atKey_put_other (by simpa using fun e => hn e.symm)] at hc
    rw [show decide (x.name = n) = false from decide_eq_false hn, Bool.or_false]
    exact h n c hc
theorem prL_bad {done : List Ln} {out : List UInt8} {x : Ln} {r : List Ln} (h : mayL done x = false) : prL done out (x :: r) = ([], 1) := by
  rw [prL, if_neg (by rw [h]; simp)]
theorem prL_long {done : List Ln} {out : List UInt8} {x : Ln} {r : List Ln} (h : ¬ (out ++ lineOut x).length ≤ 8000) : prL done out (x :: r) = ([], 1) := by
  rw [prL, if_neg (by intro h2; exact h h2.2)]
theorem prL_step {done : List Ln} {out : List UInt8} {x : Ln} {r : List Ln} (h : mayL done x = true) (h2 : (out ++ lineOut x).length ≤ 8000) : prL done out (x :: r) = prL (done ++ [x]) (out ++ lineOut x) r := by
  rw [prL, if_pos ⟨h, h2⟩]
theorem may_no1 {done : List Ln} {x : Ln} (h : nameL x.name = false) : mayL done x = false := by unfold mayL; rw [h]; rfl
theorem may_no2 {done : List Ln} {x : Ln} (h : there done x.name = true) : mayL done x = false := by unfold mayL; rw [h]; simp
theorem may_no3 {done : List Ln} {x : Ln} (h : ¬ x.text.length ≤ 200) : mayL done x = false := by unfold mayL; rw [decide_eq_false h, Bool.and_false]
theorem may_yes {done : List Ln} {x : Ln} (h : nameL x.name = true) (h2 : there done x.name = false) (h3 : x.text.length ≤ 200) : mayL done x = true := by unfold mayL; rw [h, h2, decide_eq_true h3]; rfl
theorem take_snoc {α : Type} {l : List α} {k : Nat} {x : α} (h : l[k]? = some x) : l.take (k + 1) = l.take k ++ [x] := by
  rw [List.take_add_one, h]; rfl

theorem quoteL_le (l : List UInt8) : (quoteL l).length ≤ 4 * l.length + 2 := by
  have h : (l.flatMap qB).length ≤ 4 * l.length := by
    induction l with
    | nil => simp
    | cons c r ih => have := qB_le c; simp only [List.flatMap_cons, List.length_append, List.length_cons]; omega
  simp only [quoteL, List.length_cons, List.length_append, List.length_nil]
  omega
theorem map_ok {w w' : World} {b m n : Nat} {D : DataW Unit} (h : Lib.OthersKept 5 (some b) w w') (hm : w.ownsMap Tryd.prog 9 mapE m n D) (hne : m ≠ b) : w'.ownsMap Tryd.prog 9 mapE m n D := by
  obtain ⟨es, clock, hb, r⟩ := hm
  exact ⟨es, clock, h m _ hb (by simpa using hne) (fun c fz e => by cases e), r⟩
theorem bf_map {w w' : World} {b m n : Nat} {D : DataW Unit} {bs : List Value} (h : Lib.IsBuilderF 61 5 b b bs w) (hm : w.ownsMap Tryd.prog 9 mapE m n D) (hg : w.grownBy w' (some m)) (hne : m ≠ b) : Lib.IsBuilderF 61 5 b b bs w' := by
  refine bf_kept h hg (by simpa using hne.symm) fun g c fz hc e => ?_
  obtain rfl := Option.some.inj e
  obtain ⟨es, clock, hb, r⟩ := hm
  rw [hb] at hc
  cases hc
theorem bytes_str (l : List UInt8) (s : ByteArray) : Lib.byteCells l ++ Lib.strCells s = Lib.byteCells (l ++ s.data.toList) := by simp [Lib.byteCells, Lib.strCells]
theorem lineOut_ba (x : Ln) (X : ByteArray) (hX : X.data.toList = textL x.text) : (((B x.name ++ ⟨#[32, 61, 32]⟩) ++ X) ++ ⟨#[10]⟩ : ByteArray).data.toList = lineOut x := by
  simp [lineOut, headL, hX]
theorem name_len {n : List UInt8} (h : nameL n = true) : n.length ≤ 32 := by
  unfold nameL at h
  simp at h
  exact h.1.1
theorem text_len {t : List UInt8} (h : t.length ≤ 200) : (textL t).length ≤ 802 := by
  unfold textL
  split
  · omega
  · have := quoteL_le t; omega

set_option maxHeartbeats 8000000 in
set_option maxRecDepth 100000 in
theorem print_any (p : Option Addr) (m c : Nat) (l : List Ln) (w : World) (hm : m ≤ 1073741824) (hl : ∀ x ∈ l, x.name.length ≤ 2147483647 ∧ x.text.length ≤ 2147483647) (h : Lns w (.slice p m c) l) (hG : Glo w) :
    Calls Tryd.prog 17 #[.slice p m c] w fun e w' => e = .returned (.tuple #[.string (B (printL l).1), .int .i64 (printL l).2]) ∧ Below w.heap.size w w' := by
  obtain ⟨hlen, hmc, hptr⟩ := h.ptr
  have hmm := @run_makeMap Tryd.prog
  have H := Lib.hid h
  have Hl := Lib.hid hl
  have Hptr := Lib.hid hptr
  have Hlen := Lib.hid hlen
  have HG := Lib.hid hG
  obtain ⟨b, hb⟩ : ∃ b, b = w.heap.size := ⟨_, rfl⟩
  obtain ⟨w2, hw2⟩ : ∃ w2, w2 = (w.alloc (.cells #[.pointer none, .slice none 0 0] 61)).alloc (.map #[] 0) := ⟨_, rfl⟩
  have Hb0 : Hid (Below b w w2) := Lib.hid (by rw [hw2, hb]; exact ((Below.refl _ _).alloc (Nat.le_refl _) _).alloc (by simp) _)
  have HF : Hid (Lib.IsBuilderF 61 5 b b (Lib.byteCells []) w2) := Lib.hid (by
    rw [hw2, hb]
    exact .inl ⟨Nat.le_refl _, .slice none 0 0, heap_al (heap_alloc_new w _) _, World.ownsRowF_nil _ _ _ _, by simp [Value.ownBlock]⟩)
  have HM : Hid (w2.ownsMap Tryd.prog 9 mapE (b + 1) 0 (.map [])) := Lib.hid (by
    have := World.ownsMap_made (w.alloc (.cells #[.pointer none, .slice none 0 0] 61)) Tryd.prog 9 mapE
    rw [hw2, hb]
    simpa using this)
  have hz2 : b + 2 ≤ w2.heap.size := by rw [hw2, hb]; simp
  have Hw2 := Lib.hid hw2
  have Hbe := Lib.hid hb
  clear h hl hptr hlen hG hw2
  go_enter Tryd.func17, Tryd.ntmps17
  go_wp2_with fail
  rw [← Hw2.out]
  rw [← hb]
  clear hb hmm
  go_loopw [12] (fun i wr => ∃ (k : Nat) (O : List UInt8) (D : DataW Unit), k ≤ m ∧ i = .int .i64 k ∧ O.length ≤ 8000 ∧ b + 2 ≤ wr.heap.size ∧ Hid (Lib.IsBuilderF 61 5 b b (Lib.byteCells O) wr) ∧ Hid (wr.ownsMap Tryd.prog 9 mapE (b + 1) k D) ∧ Hid (Giv2 D (l.take k)) ∧ Hid (printL l = prL (l.take k) O (l.drop k)) ∧ Hid (Below b w wr)) (fun i _ => m - (intOf i).toNat)
  case atStart => exact ⟨0, [], .map [], by omega, rfl, by simp, hz2, HF, HM, Lib.hid giv2_nil, Lib.hid rfl, Hb0⟩
  case round =>
    clear HF HM
    obtain ⟨k, O, D, hk, rfl, hO, hzr, HF, HM, Hgv, Hpr, Hb⟩ := hrel
    by_cases hlt : k < m
    · obtain ⟨bp, o, rfl, hbl⟩ := Hptr.out (by omega)
      obtain ⟨x, hx⟩ : ∃ x, l[k]? = some x := ⟨_, List.getElem?_eq_getElem (by rw [Hlen.out]; exact hlt)⟩
      have Hr := Lib.hid (H.out.later (w' := wr) (by rw [← Hbe.out]; exact Hb.out))
      obtain ⟨c0, c1, c2⟩ := Hr.out.cells hx
      obtain ⟨hn63, ht63⟩ := Hl.out x (List.mem_of_getElem? hx)
      have Hdr := Lib.hid (drop_get hx)
      have Htk := Lib.hid (take_snoc hx)
      have Hbw : Hid (Below w.heap.size w wr) := Lib.hid (by rw [← Hbe.out]; exact Hb.out)
      have hbr : bp < wr.heap.size := by have := Hbw.out.size; omega
      obtain ⟨N, hN⟩ : ∃ N, N = B x.name := ⟨_, rfl⟩
      obtain ⟨X, hX⟩ : ∃ X, X = B x.text := ⟨_, rfl⟩
      have HN : Hid (N.data.toList = x.name) := Lib.hid (by rw [hN, B_list])
      have HX : Hid (X.data.toList = x.text) := Lib.hid (by rw [hX, B_list])
      have hNs : N.size ≤ 2147483647 := by rw [hN, B_size]; exact hn63
      have hXs : X.size ≤ 2147483647 := by rw [hX, B_size]; exact ht63
      have HXl : Hid (X.size = x.text.length) := Lib.hid (by rw [hX, B_size])
      rw [← hN] at c0
      rw [← hX] at c1
      have HNB := Lib.hid hN
      obtain ⟨nu, hnu⟩ : ∃ nu, nu = x.num := ⟨_, rfl⟩
      rw [← hnu] at c2
      clear hx hN hX hn63 ht63 hnu Hr
      obtain ⟨w3, hw3⟩ : ∃ w3, w3 = wr.alloc (.cells #[.string N, .string X, .int .i64 nu] 35) := ⟨_, rfl⟩
      have hb3 : Below wr.heap.size wr w3 := by rw [hw3]; exact (Below.refl _ _).alloc (Nat.le_refl _) _
      have hz3 : w3.heap.size = wr.heap.size + 1 := by rw [hw3]; simp
      have hblk : w3.heap[wr.heap.size]? = some (.cells #[.string N, .string X, .int .i64 nu] 35 (0, 0)) := by rw [hw3]; exact heap_alloc_new wr _
      have d0 := cell_in (o := 0) hblk
      have d1 := cell_in (o := 1) hblk
      simp only [List.getElem?_toArray, List.getElem?_cons_succ, List.getElem?_cons_zero] at d0 d1
      have Hb3 := Lib.hid hb3
      have Hblk := Lib.hid hblk
      have Hw3 := Lib.hid hw3
      have HG3 : Hid (Glo w3) := Lib.hid ((HG.out.below Hbw.out (Nat.le_refl _)).below hb3 (Nat.le_refl _))
      have HI := Lib.hid (IsName_any N (by omega) w3 HG3.out)
      have HF3 := Lib.hid (bf_below HF.out hb3)
      have HM3 := Lib.hid (map_upd HM.out (Upd.of_below hb3 []) (by simp))
      have HB3 : Hid (Below b w w3) := Lib.hid (Hb.out.trans (hb3.mono (by omega)))
      clear hb3 hblk hw3
      go_wp2_with fail
      rw [← Hw3.out]
      cases hnm : nameL N.data.toList with
      | false =>
        have Hr : Hid (printL l = ([], 1)) := Lib.hid (by rw [Hpr.out, Hdr.out]; exact prL_bad (may_no1 (by rw [← HN.out]; exact hnm)))
        have Hnm := Lib.hid hnm
        clear hnm
        refine HI.out.mono ?_
        rintro e w4 ⟨rfl, hb4⟩
        rw [Hnm.out]
        have HB4 : Hid (Below b w w4) := Lib.hid (HB3.out.trans (hb4.mono (by omega)))
        clear hb4
        go_wp2_with fail
        go_returns
        rw [Hr.out]
        exact ⟨rfl, by rw [← Hbe.out]; exact HB4.out⟩
      | true =>
        have Hnm := Lib.hid hnm
        have HN32 : Hid (N.size ≤ 32) := Lib.hid (by have := name_len hnm; rwa [toList_len] at this)
        have hnx : nameL x.name = true := by rw [← HN.out]; exact hnm
        have Hnx := Lib.hid hnx
        clear hnm hnx
        refine HI.out.mono ?_
        rintro e w4 ⟨rfl, hb4⟩
        rw [Hnm.out]
        have HB4 : Hid (Below b w w4) := Lib.hid (HB3.out.trans (hb4.mono (by omega)))
        have HF4 := Lib.hid (bf_below HF3.out hb4)
        have HM4 := Lib.hid (map_upd HM3.out (Upd.of_below hb4 []) (by simp))
        have hblk4 := (hb4.block wr.heap.size (by omega)).trans Hblk.out
        have d0 := cell_in (o := 0) hblk4
        have d1 := cell_in (o := 1) hblk4
        simp only [List.getElem?_toArray, List.getElem?_cons_succ, List.getElem?_cons_zero] at d0 d1
        have hz4 : b + 3 ≤ w4.heap.size := by have := hb4.size; omega
        have hbl4 : wr.heap.size < w4.heap.size := by have := hb4.size; omega
        have hkey : keyOf Tryd.prog 9 (.string N) = some (.string N.data.toList) := Go.WideMaps.keyOf_string_mk Tryd.underlying9 (by unfold maxLen; omega)
        have Hkey := Lib.hid hkey
        have Hblk4 := Lib.hid hblk4
        clear hb4 hkey hblk4
        obtain ⟨cv, hrun, hat, hwc⟩ := HM4.out.lookup_int lawS Tryd.underlying62 Tryd.underlying3 (zeroI _) Hkey.out
        have Hat : Hid ((cv = 0 ∧ there (l.take k) x.name = false) ∨ (cv = 1 ∧ there (l.take k) x.name = true)) := Lib.hid (by rw [← HN.out]; exact Hgv.out.2 _ _ hat)
        clear hat hwc
        rcases Hat.out with ⟨hc0, hth⟩ | ⟨hc1, hth⟩
        · have Hth := Lib.hid hth
          subst hc0
          clear hth Hat
          by_cases hx2 : 200 < X.size
          · have Hr : Hid (printL l = ([], 1)) := Lib.hid (by rw [Hpr.out, Hdr.out]; exact prL_bad (may_no3 (by rw [← HXl.out]; omega)))
            have hx3 : (200 : Int) < (X.size : Int) := by omega
            clear hx2
            go_wp2_with fail
            go_returns
            rw [Hr.out]
            exact ⟨rfl, by rw [← Hbe.out]; exact HB4.out⟩
          · have Hx2 : Hid (x.text.length ≤ 200) := Lib.hid (by rw [← HXl.out]; omega)
            have Hmay := Lib.hid (may_yes Hnx.out Hth.out Hx2.out)
            have hx3 : ¬ (200 : Int) < (X.size : Int) := by omega
            focus
              go_wp2_with (at_mapUpdate; go_must (refine wpList_mapUpdate_own _ rfl _ _ _ 62 rfl 9 3 lawS Tryd.underlying62 _ (b + 1) k _ rfl HM4.out (by unfold maxLen; omega) _ _ _ rfl rfl Hkey.out _ [] (plainElem_int Tryd.underlying3 (WalkArith.wf_i64 (by omega))) ?_))
            intro w5 hmap5 hgrow5
            have hz5 : b + 3 ≤ w5.heap.size := by have := hgrow5.size; omega
            have HB5 : Hid (Below b w w5) := Lib.hid (HB4.out.grown hgrow5 (by omega) fun q hq => by cases hq; omega)
            have HF5 := Lib.hid (bf_map HF4.out HM4.out hgrow5 (by omega))
            have HM5 := Lib.hid hmap5
            have Hgv2 : Hid (Giv2 (D.put (.string N.data.toList) (.lit (.int .i64 1))) (l.take (k + 1))) := Lib.hid (by rw [Htk.out, HN.out]; exact giv2_put Hgv.out)
            have hblk5 := (hgrow5.block wr.heap.size hbl4 (by simp; omega)).trans Hblk4.out
            have e0 := cell_in (o := 0) hblk5
            have e1 := cell_in (o := 1) hblk5
            simp only [List.getElem?_toArray, List.getElem?_cons_succ, List.getElem?_cons_zero] at e0 e1
            have hbl5 : wr.heap.size < w5.heap.size := by have := hgrow5.size; omega
            have Hblk5 := Lib.hid hblk5
            have HBR := Lib.hid (bare_any X (by omega))
            clear hmap5 hgrow5 hblk5 hrun
            go_wp2_with fail
            cases hbr : bareL X.data.toList with
            | true =>
              have Hbr := Lib.hid hbr
              clear hbr
              refine (HBR.out _).mono ?_
              rintro e w7 ⟨rfl, hb7⟩
              rw [Hbr.out]
              have HF7 := Lib.hid (bf_below HF5.out hb7)
              have HM7 := Lib.hid (map_upd HM5.out (Upd.of_below hb7 []) (by simp))
              have HB7 : Hid (Below b w w7) := Lib.hid (HB5.out.trans (hb7.mono (by omega)))
              have hz7 : b + 3 ≤ w7.heap.size := by have := hb7.size; omega
              have g0 := (hb7.cell (p := ⟨wr.heap.size, 0, none⟩) hbl5).trans e0
              obtain ⟨TX, hTX⟩ : ∃ TX, TX = X := ⟨_, rfl⟩
              have HTX : Hid (TX.data.toList = textL x.text) := Lib.hid (by
                have h1 := Hbr.out
                rw [HX.out] at h1
                rw [hTX, HX.out]
                unfold textL
                rw [if_pos h1])
              subst hTX
              clear hb7
              obtain ⟨S3, hS3⟩ : ∃ S3 : ByteArray, S3 = ((N ++ (⟨#[32, 61, 32]⟩ : ByteArray)) ++ TX) ++ (⟨#[10]⟩ : ByteArray) := ⟨_, rfl⟩
              have hS3l : S3.data.toList = lineOut x := by rw [hS3, HNB.out]; exact lineOut_ba x TX HTX.out
              have hS3z : S3.size ≤ 1000 := by
                have h2 := text_len Hx2.out
                have h1 : N.size ≤ 32 := HN32.out
                have h3 : TX.size ≤ 802 := by rw [← toList_len TX, HTX.out]; exact h2
                rw [hS3]
                simp only [ByteArray.size_append]
                have : (⟨#[32, 61, 32]⟩ : ByteArray).size = 3 := rfl
                have : (⟨#[10]⟩ : ByteArray).size = 1 := rfl
                omega
              have hN32 : N.size ≤ 32 := HN32.out
              have hTX8 : TX.size ≤ 802 := by have h2 := text_len Hx2.out; rw [← toList_len TX, HTX.out]; exact h2
              have hadd1 : ∀ wx : World, (Op.stringOp .add N ⟨#[32, 61, 32]⟩).run Tryd.prog wx = .ok (.string (N ++ (⟨#[32, 61, 32]⟩ : ByteArray))) wx := fun wx => run_string_add_sum wx _ _ (by have : (⟨#[32, 61, 32]⟩ : ByteArray).size = 3 := rfl; omega)
              have hadd2 : ∀ wx : World, (Op.stringOp .add (N ++ (⟨#[32, 61, 32]⟩ : ByteArray)) TX).run Tryd.prog wx = .ok (.string ((N ++ (⟨#[32, 61, 32]⟩ : ByteArray)) ++ TX)) wx := fun wx => run_string_add_sum wx _ _ (by have : (⟨#[32, 61, 32]⟩ : ByteArray).size = 3 := rfl; simp only [ByteArray.size_append]; omega)
              have hadd3 : ∀ wx : World, (Op.stringOp .add ((N ++ (⟨#[32, 61, 32]⟩ : ByteArray)) ++ TX) ⟨#[10]⟩).run Tryd.prog wx = .ok (.string S3) wx := fun wx => by rw [hS3]; exact run_string_add_sum wx _ _ (by have : (⟨#[32, 61, 32]⟩ : ByteArray).size = 3 := rfl; have : (⟨#[10]⟩ : ByteArray).size = 1 := rfl; simp only [ByteArray.size_append]; omega)
              generalize N ++ (⟨#[32, 61, 32]⟩ : ByteArray) = S1 at *
              generalize S1 ++ TX = S2 at *
              have HS3 := Lib.hid hS3l
              clear hS3 hS3l
              go_wp2_with fail
              refine (WriteString_any b b _ S3 w7 HF7.out (by rw [Lib.byteCells_length]; omega) (by omega)).mono ?_
              rintro e w8 ⟨rfl, hbat, hb8, hok8⟩
              have HF8 : Hid (Lib.IsBuilderF 61 5 b b (Lib.byteCells (O ++ lineOut x)) w8) := Lib.hid (by
                have h9 : Lib.IsBuilderF 61 5 b b (Lib.byteCells O ++ Lib.strCells S3) w8 := .inr hbat
                rwa [bytes_str, HS3.out] at h9)
              have HM8 := Lib.hid (map_ok hok8 HM7.out (by omega))
              have HB8 := Lib.hid (HB7.out.trans hb8)
              have hz8 : b + 2 ≤ w8.heap.size := by have := hb8.size; omega
              clear hbat hb8 hok8 hadd1 hadd2 hadd3
              go_wp2_with fail
              refine (Tryd.Builder_Len_f b b _ w8 HF8.out).mono ?_
              rintro e w9 ⟨rfl, rfl⟩
              rw [Lib.byteCells_length]
              have Hol : Hid ((O ++ lineOut x).length = (O ++ lineOut x).length) := Lib.hid rfl
              obtain ⟨nl, hnl⟩ : ∃ nl, nl = (O ++ lineOut x).length := ⟨_, rfl⟩
              rw [← hnl]
              have Hnl := Lib.hid hnl
              have hnl9 : nl ≤ 9000 := by rw [hnl, List.length_append, ← HS3.out, toList_len]; omega
              clear hnl Hol
              by_cases hlong : 8000 < nl
              · have Hr : Hid (printL l = ([], 1)) := Lib.hid (by rw [Hpr.out, Hdr.out]; exact prL_long (by rw [← Hnl.out]; omega))
                have hl2 : (8000 : Int) < (nl : Int) := by omega
                go_wp2_with fail
                go_returns
                rw [Hr.out]
                exact ⟨rfl, by rw [← Hbe.out]; exact HB8.out⟩
              · have hl2 : ¬ (8000 : Int) < (nl : Int) := by omega
                have Hp2 : Hid (printL l = prL (l.take (k + 1)) (O ++ lineOut x) (l.drop (k + 1))) := Lib.hid (by rw [Hpr.out, Hdr.out, prL_step Hmay.out (by rw [← Hnl.out]; omega), Htk.out])
                go_wp2_with fail
                go_roundw
                case rel => exact ⟨k + 1, O ++ lineOut x, _, by omega, by go_num, by rw [← Hnl.out]; omega, hz8, HF8, HM8, Hgv2, Hp2, HB8⟩
                case measure => simp [intOf]; omega
            | false =>
              have Hbr := Lib.hid hbr
              clear hbr
              refine (HBR.out _).mono ?_
              rintro e w6 ⟨rfl, hb6⟩
              rw [Hbr.out]
              have Hb6 := Lib.hid hb6
              clear hb6
              go_wp2_with fail
              refine (Quote_any X (by omega) _).mono ?_
              rintro e w7 ⟨rfl, hb67⟩
              have hb7 := then_bel Hb6.out hb67
              have HF7 := Lib.hid (bf_below HF5.out hb7)
              have HM7 := Lib.hid (map_upd HM5.out (Upd.of_below hb7 []) (by simp))
              have HB7 : Hid (Below b w w7) := Lib.hid (HB5.out.trans (hb7.mono (by omega)))
              have hz7 : b + 3 ≤ w7.heap.size := by have := hb7.size; omega
              have g0 := (hb7.cell (p := ⟨wr.heap.size, 0, none⟩) hbl5).trans e0
              obtain ⟨TX, hTX⟩ : ∃ TX : ByteArray, TX = ⟨(quoteL X.data.toList).toArray⟩ := ⟨_, rfl⟩
              have HTX : Hid (TX.data.toList = textL x.text) := Lib.hid (by
                have h1 := Hbr.out
                rw [HX.out] at h1
                rw [hTX, HX.out]
                unfold textL
                rw [if_neg (by rw [h1]; simp)])
              rw [← hTX]
              clear hb7 hb67 hTX
              obtain ⟨S3, hS3⟩ : ∃ S3 : ByteArray, S3 = ((N ++ (⟨#[32, 61, 32]⟩ : ByteArray)) ++ TX) ++ (⟨#[10]⟩ : ByteArray) := ⟨_, rfl⟩
              have hS3l : S3.data.toList = lineOut x := by rw [hS3, HNB.out]; exact lineOut_ba x TX HTX.out
              have hS3z : S3.size ≤ 1000 := by
                have h2 := text_len Hx2.out
                have h1 : N.size ≤ 32 := HN32.out
                have h3 : TX.size ≤ 802 := by rw [← toList_len TX, HTX.out]; exact h2
                rw [hS3]
                simp only [ByteArray.size_append]
                have : (⟨#[32, 61, 32]⟩ : ByteArray).size = 3 := rfl
                have : (⟨#[10]⟩ : ByteArray).size = 1 := rfl
                omega
              have hN32 : N.size ≤ 32 := HN32.out
              have hTX8 : TX.size ≤ 802 := by have h2 := text_len Hx2.out; rw [← toList_len TX, HTX.out]; exact h2
              have hadd1 : ∀ wx : World, (Op.stringOp .add N ⟨#[32, 61, 32]⟩).run Tryd.prog wx = .ok (.string (N ++ (⟨#[32, 61, 32]⟩ : ByteArray))) wx := fun wx => run_string_add_sum wx _ _ (by have : (⟨#[32, 61, 32]⟩ : ByteArray).size = 3 := rfl; omega)
              have hadd2 : ∀ wx : World, (Op.stringOp .add (N ++ (⟨#[32, 61, 32]⟩ : ByteArray)) TX).run Tryd.prog wx = .ok (.string ((N ++ (⟨#[32, 61, 32]⟩ : ByteArray)) ++ TX)) wx := fun wx => run_string_add_sum wx _ _ (by have : (⟨#[32, 61, 32]⟩ : ByteArray).size = 3 := rfl; simp only [ByteArray.size_append]; omega)
              have hadd3 : ∀ wx : World, (Op.stringOp .add ((N ++ (⟨#[32, 61, 32]⟩ : ByteArray)) ++ TX) ⟨#[10]⟩).run Tryd.prog wx = .ok (.string S3) wx := fun wx => by rw [hS3]; exact run_string_add_sum wx _ _ (by have : (⟨#[32, 61, 32]⟩ : ByteArray).size = 3 := rfl; have : (⟨#[10]⟩ : ByteArray).size = 1 := rfl; simp only [ByteArray.size_append]; omega)
              generalize N ++ (⟨#[32, 61, 32]⟩ : ByteArray) = S1 at *
              generalize S1 ++ TX = S2 at *
              have HS3 := Lib.hid hS3l
              clear hS3 hS3l
              go_wp2_with fail
              refine (WriteString_any b b _ S3 w7 HF7.out (by rw [Lib.byteCells_length]; omega) (by omega)).mono ?_
              rintro e w8 ⟨rfl, hbat, hb8, hok8⟩
              have HF8 : Hid (Lib.IsBuilderF 61 5 b b (Lib.byteCells (O ++ lineOut x)) w8) := Lib.hid (by
                have h9 : Lib.IsBuilderF 61 5 b b (Lib.byteCells O ++ Lib.strCells S3) w8 := .inr hbat
                rwa [bytes_str, HS3.out] at h9)
              have HM8 := Lib.hid (map_ok hok8 HM7.out (by omega))
              have HB8 := Lib.hid (HB7.out.trans hb8)
              have hz8 : b + 2 ≤ w8.heap.size := by have := hb8.size; omega
              clear hbat hb8 hok8 hadd1 hadd2 hadd3
              go_wp2_with fail
              refine (Tryd.Builder_Len_f b b _ w8 HF8.out).mono ?_
              rintro e w9 ⟨rfl, rfl⟩
              rw [Lib.byteCells_length]
              have Hol : Hid ((O ++ lineOut x).length = (O ++ lineOut x).length) := Lib.hid rfl
              obtain ⟨nl, hnl⟩ : ∃ nl, nl = (O ++ lineOut x).length := ⟨_, rfl⟩
              rw [← hnl]
              have Hnl := Lib.hid hnl
              have hnl9 : nl ≤ 9000 := by rw [hnl, List.length_append, ← HS3.out, toList_len]; omega
              clear hnl Hol
              by_cases hlong : 8000 < nl
              · have Hr : Hid (printL l = ([], 1)) := Lib.hid (by rw [Hpr.out, Hdr.out]; exact prL_long (by rw [← Hnl.out]; omega))
                have hl2 : (8000 : Int) < (nl : Int) := by omega
                go_wp2_with fail
                go_returns
                rw [Hr.out]
                exact ⟨rfl, by rw [← Hbe.out]; exact HB8.out⟩
              · have hl2 : ¬ (8000 : Int) < (nl : Int) := by omega
                have Hp2 : Hid (printL l = prL (l.take (k + 1)) (O ++ lineOut x) (l.drop (k + 1))) := Lib.hid (by rw [Hpr.out, Hdr.out, prL_step Hmay.out (by rw [← Hnl.out]; omega), Htk.out])
                go_wp2_with fail
                go_roundw
                case rel => exact ⟨k + 1, O ++ lineOut x, _, by omega, by go_num, by rw [← Hnl.out]; omega, hz8, HF8, HM8, Hgv2, Hp2, HB8⟩
                case measure => simp [intOf]; omega
        · have Hr : Hid (printL l = ([], 1)) := Lib.hid (by rw [Hpr.out, Hdr.out]; exact prL_bad (may_no2 hth))
          subst hc1
          clear hth Hat
          go_wp2_with fail
          go_returns
          rw [Hr.out]
          exact ⟨rfl, by rw [← Hbe.out]; exact HB4.out⟩
    · obtain rfl : k = m := by omega
      have hr : Hid (printL l = (O, 0)) := Lib.hid (by rw [Hpr.out, List.drop_eq_nil_of_le (by rw [Hlen.out]; exact Nat.le_refl _)]; rfl)
      go_wp2_with fail
      refine (Tryd.Builder_String_any_f b b O wr HF.out (by omega)).mono ?_
      rintro e w9 ⟨rfl, _, hb9⟩
      have Hb9 := Lib.hid hb9
      clear hb9
      go_wp2_with fail
      go_returns
      rw [hr.out]
      exact ⟨rfl, by rw [← Hbe.out]; exact Hb.out.trans Hb9.out⟩
end Go.Proofs.YtkbamhecbfocbaaDoor.ini
