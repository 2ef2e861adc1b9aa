/- The reader of package ini in memory; (*reader).sections reads a section's line, or panics. Conditions: as stated. -/
import Derived.Test.YtkbamhecbfocbaaDoorInV
import Derived.Maps.Own
import Derived.Maps.OwnOps
import Derived.Maps.Views
import Derived.StringKeys
namespace Go.Proofs.YtkbamhecbfocbaaDoor.ini
open Go.ChangeShapes Go.WideShapes Go.ChangeAt Go.RowKit gl
open Go.Maps

/-! ### The names that were given, in a map -/
def Giv (D : DataW Unit) (out : List Ln) : Prop := IsMap D ∧ ∀ (n : List UInt8) (c : Int), D.atKey (.string n) (.lit (.int .i64 0)) = .lit (.int .i64 c) → (c = 0 ↔ there out n = false)
theorem giv_nil : Giv (.map []) [] := ⟨⟨[], rfl⟩, fun n c h => by
  have : (DataW.map [] : DataW Unit).atKey (.string n) (.lit (.int .i64 0)) = .lit (.int .i64 0) := rfl
  rw [this] at h
  simp at h
  simp [there, h.symm]⟩
theorem there_snoc (out : List Ln) (x : Ln) (n : List UInt8) : there (out ++ [x]) n = (there out n || decide (x.name = n)) := by simp [there]
theorem giv_put {D : DataW Unit} {out : List Ln} {x : Ln} (h : Giv D out) (hx : x.num ≠ 0) : Giv (D.put (.string x.name) (.lit (.int .i64 x.num))) (out ++ [x]) := by
  obtain ⟨hm, h⟩ := h
  refine ⟨hm.put _ _, fun n c hc => ?_⟩
  rw [there_snoc]
  by_cases hn : x.name = n
  · subst hn
    rw [atKey_put_same hm (by first | exact trivial | exact ⟨_, rfl⟩ | simp [WideAt.IsKeyLit])] at hc
    simp at hc
    subst hc
    simp [hx]
  · rw [atKey_put_other (by simpa using fun e => hn e.symm)] at hc
    rw [h n c hc]
    simp [hn]

/-! ### The reader in memory -/
def GloB (M : Nat) (w : World) : Prop := ∃ w0, Glo w0 ∧ w0.heap.size ≤ M ∧ Below M w0 w
theorem GloB.glo {M : Nat} {w : World} (h : GloB M w) : Glo w := by obtain ⟨w0, h1, h2, h3⟩ := h; exact h1.below h3 h2
theorem GloB.later {M : Nat} {w w' : World} (h : GloB M w) (hb : Below M w w') : GloB M w' := by obtain ⟨w0, h1, h2, h3⟩ := h; exact ⟨w0, h1, h2, h3.trans hb⟩
theorem GloB.of {w : World} (h : Glo w) : GloB w.heap.size w := ⟨w, h, Nat.le_refl _, Below.refl _ _⟩
noncomputable def mapE : Value → Option (DataW Unit × List MemPlace) := plainElem Tryd.prog 3
structure RD (M : Nat) (w : World) (b m : Nat) (a : List UInt8) (out : List Ln) : Prop where
  glo : GloB M w
  blk : ∃ p c, w.heap[b]? = some (.cells #[.string (B a), .slice p out.length c, .map (some m)] 73 (0, 0)) ∧ w.ownsRow M 35 3 (.slice p out.length c) out.length (lnsC out)
  mp : ∃ D : DataW Unit, w.ownsMap Tryd.prog 9 mapE m out.length D ∧ Giv D out
  bM : M ≤ b
  mM : M ≤ m
  hM : M ≤ w.heap.size
theorem map_upd {S : List Nat} {w w' : World} {m n : Nat} {D : DataW Unit} (h : w.ownsMap Tryd.prog 9 mapE m n D) (hu : Upd S w w') (hm : m ∉ S) : w'.ownsMap Tryd.prog 9 mapE m n D := by
  obtain ⟨es, clock, hb, r⟩ := h
  exact ⟨es, clock, hu.obj hb hm, r⟩
theorem map_ne {w : World} {m n b : Nat} {D : DataW Unit} {cs : Array Value} {t : TypeId} {f : Nat × Nat} (h : w.ownsMap Tryd.prog 9 mapE m n D) (hb : w.heap[b]? = some (.cells cs t f)) : m ≠ b := by
  rintro rfl
  obtain ⟨es, clock, hb', _⟩ := h
  rw [hb] at hb'
  cases hb'
/-- The section's text is another. -/
theorem RD.set {M b m : Nat} {w w' : World} {a a' : List UInt8} {out : List Ln} (h : RD M w b m a out) (hu : Upd [b] w w')
    (hb : ∀ p c, w.heap[b]? = some (.cells #[.string (B a), .slice p out.length c, .map (some m)] 73 (0, 0)) → w'.heap[b]? = some (.cells #[.string (B a'), .slice p out.length c, .map (some m)] 73 (0, 0))) : RD M w' b m a' out := by
  obtain ⟨p, c, hblk, hown⟩ := h.blk
  obtain ⟨D, hmp, hg⟩ := h.mp
  have hbel : Below M w w' := hu.below (by simp; exact h.bM) h.hM
  refine ⟨h.glo.later hbel, ⟨p, c, hb p c hblk, hu.row hown fun g hg hm => ?_⟩, ⟨D, map_upd hmp hu (by simpa using map_ne hmp hblk), hg⟩, h.bM, h.mM, Nat.le_trans h.hM hu.size⟩
  obtain rfl : g = b := by simpa using hm
  rcases hown.2 with ⟨h1, _⟩ | ⟨q, cap, cur, h1, _, hq, _⟩
  · rw [h1] at hg; cases hg
  · rw [h1] at hg
    exact ne_of_types hblk hq (by decide) (Option.some.inj hg).symm
theorem RD.later {M b m : Nat} {w w' : World} {a : List UInt8} {out : List Ln} (h : RD M w b m a out) (hb : Below w.heap.size w w') : RD M w' b m a out :=
  h.set (Upd.of_below hb _) fun _p _c hblk => (hb.block b (lt_of_block hblk)).trans hblk

theorem RD.put {M b m : Nat} {w : World} {a : List UInt8} {out : List Ln} (h : RD M w b m a out) {X : ByteArray} {a' : List UInt8} (hX : X = B a') : RD M (w.setCell ⟨b, 0, none⟩ (.string X)) b m a' out := by
  subst hX
  refine h.set ((Upd.refl [b] w).setCell (p := ⟨b, 0, none⟩) (.inl (by simp)) _) fun p c hblk => ?_
  exact heap_set hblk _
theorem RD.bel {M b m : Nat} {w : World} {a : List UInt8} {out : List Ln} (h : RD M w b m a out) (v : Value) : Below M w (w.setCell ⟨b, 0, none⟩ v) := (Below.refl _ _).setCell (p := ⟨b, 0, none⟩) h.bM v
theorem RD.cells {M b m : Nat} {w : World} {a : List UInt8} {out : List Ln} (h : RD M w b m a out) : w.cell? ⟨b, 0, none⟩ = some (.string (B a)) ∧ w.frozen? ⟨b, 0, none⟩ = false ∧ b < w.heap.size := by
  obtain ⟨p, c, hblk, _⟩ := h.blk
  exact ⟨cell_in hblk, free_in hblk, lt_of_block hblk⟩

/-! ### The library's cuts -/
theorem suffix_93 (r : List UInt8) : Lib.hasSuffix r [93] = decide (r.getLast? = some 93) := by
  unfold Lib.hasSuffix
  rcases List.eq_nil_or_concat r with rfl | ⟨t, c, rfl⟩
  · rfl
  · rw [List.concat_eq_append]
    by_cases hc : c = 93
    · subst hc; simp [List.isSuffixOf]
    · have : ¬ ([93] <:+ t ++ [c]) := by
        rintro ⟨x, hx⟩
        have := List.append_inj_right' hx rfl
        simp at this
        exact hc this.symm
      rw [show List.isSuffixOf [93] (t ++ [c]) = false from by
        cases h : List.isSuffixOf [93] (t ++ [c]) with
        | false => rfl
        | true => exact absurd (List.isSuffixOf_iff_suffix.1 h) this]
      simp [hc]
theorem trimSuffix_93 {r : List UInt8} (h : r.getLast? = some 93) : Lib.trimSuffix r [93] = r.dropLast := by
  unfold Lib.trimSuffix
  rw [if_pos (by rw [suffix_93]; exact decide_eq_true h), List.dropLast_eq_take]
  rfl

/-! ### sections -/
theorem sec_parts_bad {p : List UInt8} (hne : p ≠ []) (h : secOk p = false) {r : List UInt8} (hr : r.getLast? = some 93) (hp : r.dropLast = p) : secL r = none := by
  unfold secL
  rw [if_pos hr, hp, if_neg hne, h]
  rfl
theorem sec_parts_good {p : List UInt8} (hne : p ≠ []) (h : secOk p = true) {r : List UInt8} (hr : r.getLast? = some 93) (hp : r.dropLast = p) : secL r = some (p ++ [46]) := by
  unfold secL
  rw [if_pos hr, hp, if_neg hne, if_pos h]
def SOut (M b m : Nat) (out : List Ln) (o : Option (List UInt8)) (w : World) (e : Ending) (w' : World) : Prop := match o with
  | some a => e = .returned (.tuple #[]) ∧ RD M w' b m a out ∧ Below M w w' ∧ ls.SK 9 w w'
  | none => e = pan ∧ Below M w w'
theorem ss_put {M b m o : Nat} {w : World} {a : List UInt8} {out : List Ln} (h : RD M w b m a out) (v : Value) : ls.SK 9 w (w.setCell ⟨b, o, none⟩ v) := fun g cs hg => by
  obtain ⟨p, c, hblk, _⟩ := h.blk
  exact heap_set_ne hg v (ne_of_types hg hblk (by decide))

set_option maxHeartbeats 4000000 in
set_option maxRecDepth 100000 in
theorem sections_any (s : ByteArray) (hs : s.size ≤ 8000) (r : List UInt8) (hr : s.data.toList = 91 :: r) (M b m : Nat) (a : List UInt8) (out : List Ln) (w : World) (h : RD M w b m a out) :
    Calls Tryd.prog 76 #[.pointer (some ⟨b, 0, none⟩), .string s] w fun e w' => SOut M b m out (secL r) w e w' := by
  have HR := Lib.hid h
  obtain ⟨p, c, hblk, hown⟩ := h.blk
  have Hblk := Lib.hid hblk
  have hbM := h.bM
  have hMw := h.hM
  have hbl := lt_of_block hblk
  have b0 := cell_in (o := 0) hblk
  have f0 : w.frozen? ⟨b, 0, none⟩ = false := free_in hblk
  simp only [List.getElem?_toArray, List.getElem?_cons_zero] at b0
  obtain ⟨R, hR⟩ : ∃ R : ByteArray, R = s.extract 1 s.size := ⟨_, rfl⟩
  have hRl : R.data.toList = r := by rw [hR, drop_data, hr]; rfl
  have hRs : R.size ≤ s.size := by rw [hR]; exact extract_size_le _ _ _
  have hs1 : 1 ≤ s.size := by have := congrArg List.length hr; rw [toList_len] at this; simp at this; omega
  have hRe : s.extract 1 s.size = R := hR.symm
  have HRl := Lib.hid hRl
  have HC := Lib.hid fun W => Tryd.strings_CutSuffix R ⟨#[93]⟩ W (by omega)
  clear h hblk hown hr hR hRl
  cases hl : Lib.hasSuffix r [93] with
  | false =>
    have Hl := Lib.hid hl
    have Hr : Hid (secL r = none) := Lib.hid (by
      rw [suffix_93] at hl
      unfold secL
      rw [if_neg (by simpa using hl)])
    clear hl
    go_enter Tryd.func76, Tryd.ntmps76
    go_wp2_with fail
    refine (HC.out _).mono ?_
    rintro e w1 ⟨rfl, rfl⟩
    rw [HRl.out, Hl.out]
    go_wp2_with fail
    refine (want_no _).mono ?_
    rintro e w2 ⟨rfl, rfl⟩
    unfold pan
    go_wp2_with fail
    refine ⟨rfl, ?_⟩
    rw [Hr.out]
    exact ⟨rfl, Below.refl _ _⟩
  | true =>
    have hl2 : r.getLast? = some 93 := by rw [suffix_93] at hl; simpa using hl
    have Hl := Lib.hid hl
    have Hl2 := Lib.hid hl2
    have Htr := Lib.hid (trimSuffix_93 hl2)
    obtain ⟨P, hP⟩ : ∃ P : ByteArray, P = (⟨r.dropLast.toArray⟩ : ByteArray) := ⟨_, rfl⟩
    have HPl : Hid (P.data.toList = r.dropLast) := Lib.hid (by rw [hP, B_list])
    have hPs : P.size ≤ 8000 := by rw [hP, B_size, List.length_dropLast]; have := toList_len R; rw [HRl.out] at this; omega
    have HP := Lib.hid hP
    clear hl hl2 hP
    by_cases h0 : P.data.toList = []
    · have q := seq_lit h0
      have Hr : Hid (secL r = some []) := Lib.hid (by unfold secL; rw [if_pos Hl2.out, if_pos (by rw [← HPl.out]; exact h0)])
      clear h0
      go_enter Tryd.func76, Tryd.ntmps76
      go_wp2_with fail
      refine (HC.out _).mono ?_
      rintro e w1 ⟨rfl, rfl⟩
      rw [HRl.out, Hl.out, Htr.out, ← HP.out]
      go_wp2_with fail
      refine (want_yes _).mono ?_
      rintro e w2 ⟨rfl, rfl⟩
      go_wp2_with fail
      go_end0
      rw [Hr.out]
      exact ⟨rfl, HR.out.put rfl, HR.out.bel _, ss_put HR.out _⟩
    · have q := seq_nlit h0
      have hne : r.dropLast ≠ [] := by rw [← HPl.out]; exact h0
      have H0 := Lib.hid (HR.out.put (X := ⟨#[]⟩) (a' := []) rfl)
      have HB0 := Lib.hid (HR.out.bel (.string ⟨#[]⟩))
      have HS0 := Lib.hid (ss_put (o := 0) HR.out (.string ⟨#[]⟩))
      obtain ⟨w2, hw2⟩ : ∃ w2, w2 = w.setCell ⟨b, 0, none⟩ (.string ⟨#[]⟩) := ⟨_, rfl⟩
      rw [← hw2] at H0 HB0 HS0
      have HS := Lib.hid (split_any 46 P (by omega) w2 H0.out.glo.glo)
      have Hw2 := Lib.hid hw2
      have Hne := Lib.hid hne
      clear h0 hne hw2
      go_enter Tryd.func76, Tryd.ntmps76
      go_wp2_with fail
      refine (HC.out _).mono ?_
      rintro e w1 ⟨rfl, rfl⟩
      rw [HRl.out, Hl.out, Htr.out, ← HP.out]
      go_wp2_with fail
      refine (want_yes _).mono ?_
      rintro e w9 ⟨rfl, rfl⟩
      go_wp2_with fail
      rw [← Hw2.out]
      refine HS.out.mono ?_
      rintro e w3 ⟨ps, hps, rfl, hb3, hz3, hcell⟩
      have Hps := Lib.hid hps
      have Hcell := Lib.hid hcell
      have Hb3 := Lib.hid hb3
      have hlen : (pcs 46 P.data.toList).length = ps.length := by rw [← hps, List.length_map]
      have hpl : ps.length ≤ 8001 := by
        rw [← hlen, pcs_length]
        have := List.count_le_length (a := (46 : UInt8)) (l := P.data.toList)
        rw [toList_len] at this
        omega
      have Hlen := Lib.hid hlen
      have H3 := Lib.hid (H0.out.later hb3)
      have hz23 := hb3.size
      have HPb : Hid (∀ p ∈ ps, p.size ≤ 8000) := Lib.hid fun p hp => by
        have := mem_pcs_le 46 P.data.toList p.data.toList (by rw [← hps]; exact List.mem_map_of_mem hp)
        rw [toList_len, toList_len] at this
        omega
      have HB3 := Lib.hid (HB0.out.trans (hb3.mono H0.out.hM))
      have HS3 := Lib.hid (HS0.out.trans (ls.SK.of_below hb3))
      clear hps hcell hb3 hlen
      go_wp2_with fail
      by_cases h2 : ps.length ≤ 2
      · have q2 : decide ((ps.length : Int) ≤ 2) = true := by simp; omega
        rw [q2]
        refine (want_yes _).mono ?_
        rintro e w9 ⟨rfl, rfl⟩
        go_wp2_with fail
        go_loopw [30] (fun i wr => ∃ k : Nat, k ≤ ps.length ∧ i = .int .i64 k ∧ allTo (pcs 46 P.data.toList) k ∧ Below w3.heap.size w3 wr) (fun i _ => ps.length - (intOf i).toNat)
        case atStart => exact ⟨0, by omega, rfl, fun j p h => by omega, Below.refl _ _⟩
        case round =>
          obtain ⟨k, hk, rfl, hall, hbel⟩ := hrel
          have Hall := Lib.hid hall
          have Hbel := Lib.hid hbel
          have hzr := hbel.size
          clear hall hbel
          by_cases hlt : k < ps.length
          · obtain ⟨p, hp, hpL⟩ := pieceAt Hps.out k hlt
            have c0 : wr.cell? ⟨w2.heap.size, k, none⟩ = some (.string p) := (Hbel.out.cell (p := ⟨w2.heap.size, k, none⟩) hz3).trans (Hcell.out k p hp)
            have hpz := HPb.out p (List.mem_of_getElem? hp)
            have HI := Lib.hid (isPart_any p (by omega) wr (H3.out.later Hbel.out).glo.glo)
            have HpL := Lib.hid hpL
            clear hp hpL
            cases hok : partL p.data.toList with
            | true =>
              have Hn := Lib.hid (allTo_succ Hall.out HpL.out hok)
              have Hok := Lib.hid hok
              clear hok
              go_wp2_with fail
              refine HI.out.mono ?_
              rintro e w5 ⟨rfl, hb5⟩
              rw [Hok.out]
              have Hb5 := Lib.hid (then_bel Hbel.out hb5)
              clear hb5
              go_wp2_with fail
              refine (want_yes _).mono ?_
              rintro e w9 ⟨rfl, rfl⟩
              go_wp2_with fail
              go_roundw
              case rel => exact ⟨k + 1, by omega, by go_num, Hn.out, Hb5.out⟩
              case measure => simp [intOf]; omega
            | false =>
              have Hr : Hid (secL r = none) := Lib.hid (sec_parts_bad Hne.out (by rw [← HPl.out]; unfold secOk; rw [all_false_of HpL.out hok, Bool.and_false]) Hl2.out rfl)
              have Hok := Lib.hid hok
              clear hok
              go_wp2_with fail
              refine HI.out.mono ?_
              rintro e w5 ⟨rfl, hb5⟩
              rw [Hok.out]
              have Hb5 := Lib.hid (then_bel Hbel.out hb5)
              clear hb5
              go_wp2_with fail
              refine (want_no _).mono ?_
              rintro e w9 ⟨rfl, rfl⟩
              unfold pan
              go_wp2_with fail
              refine ⟨rfl, ?_⟩
              rw [Hr.out]
              exact ⟨rfl, HB3.out.trans (Hb5.out.mono H3.out.hM)⟩
          · obtain rfl : k = ps.length := by omega
            have Hok : Hid (secL r = some (P.data.toList ++ [46])) := Lib.hid (by
              rw [HPl.out]
              refine sec_parts_good Hne.out ?_ Hl2.out rfl
              rw [← HPl.out]
              unfold secOk
              rw [Hlen.out, decide_eq_true h2, allTo_all (by rw [Hlen.out]; exact Hall.out)]
              rfl)
            have H5 := Lib.hid (H3.out.later Hbel.out)
            obtain ⟨c5, f5, hb5⟩ := H5.out.cells
            obtain ⟨A2, hA2⟩ : ∃ A2 : ByteArray, A2 = P ++ (⟨#[46]⟩ : ByteArray) := ⟨_, rfl⟩
            have HA2l : Hid (A2 = B (P.data.toList ++ [46])) := Lib.hid (by rw [hA2, ← B_of (P ++ _), app_list])
            have hsum : ∀ wx : World, (Op.stringOp .add P ⟨#[46]⟩).run Tryd.prog wx = .ok (.string A2) wx := fun wx => by
              rw [hA2]
              exact run_string_add_sum wx _ _ (by have : (⟨#[46]⟩ : ByteArray).size = 1 := rfl; omega)
            have HA2 := Lib.hid hA2
            clear hA2
            go_wp2_with fail
            go_end0
            rw [Hok.out]
            first
              | exact ⟨rfl, H5.out.put HA2l.out, (HB3.out.trans (Hbel.out.mono H3.out.hM)).trans (H5.out.bel _), (HS3.out.trans (ls.SK.of_below Hbel.out)).trans (ss_put H5.out _)⟩
              | (rw [← HA2.out]; exact ⟨rfl, H5.out.put HA2l.out, (HB3.out.trans (Hbel.out.mono H3.out.hM)).trans (H5.out.bel _), (HS3.out.trans (ls.SK.of_below Hbel.out)).trans (ss_put H5.out _)⟩)
      · have q2 : decide ((ps.length : Int) ≤ 2) = false := by simp; omega
        have Hr : Hid (secL r = none) := Lib.hid (sec_parts_bad Hne.out (by rw [← HPl.out]; unfold secOk; rw [Hlen.out, decide_eq_false h2]; rfl) Hl2.out rfl)
        clear h2
        rw [q2]
        refine (want_no _).mono ?_
        rintro e w9 ⟨rfl, rfl⟩
        unfold pan
        go_wp2_with fail
        refine ⟨rfl, ?_⟩
        rw [Hr.out]
        exact ⟨rfl, HB3.out⟩
end Go.Proofs.YtkbamhecbfocbaaDoor.ini
