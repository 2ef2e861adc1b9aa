/- Laws and contracts on which the statement rests, part D: each text says what it proves, and its conditions. -/
import Derived.Test.YthjcifokmcbaoaaGreatDoorMgC
import Derived.Deep.RegionHeld3
import Derived.WalkKit
import Derived.Deep.RegionLaw
import Derived.Conc.MuLone
import Derived.Lib.Hide
/- The reference's Call of chapter 16 returns a plain function. Conditions: texts of at most 2147483647 bytes. -/
namespace Go.Proofs.YthjcifokmcbaoaaGreatDoor.st
open Go.ChangeShapes Go.WideShapes Go.ChangeAt Go.RowKit gl

section
variable {P : Program}
theorem wpList_string_at {ops : Array Oper} {rest : List Oper} {o : Oper} {a : Act} {w : World} {Q : Exit → Act → World → Prop} (hgd : o.guard = none) (src dst e : TypeId) (x : Operand) (ho : o.op = .convert src dst x)
    (p : Addr) (n cap : Nat) (l : List UInt8) (hn : l.length = n) (hx : a.eval x = .slice (some p) n cap) (hs : P.underlying src = some (.slice e)) (he : P.underlying e = some (.int .u8)) (hd : P.underlying dst = some .string)
    (hl : ∀ (j : Nat) (b : UInt8), l[j]? = some b → w.cell? (p.add j) = some (.int .u8 (b.toNat : Int)))
    (h : wpList P ops Q rest (a.put o.dst (.string ⟨l.toArray⟩)) w) : wpList P ops Q (o :: rest) a w := by
  subst hn
  refine wpList_plain hgd fun K hK => ?_
  unfold Oper.wp execOp
  simp only [ho, hx, Sem.run_bind, Sem.run_pure, Result.andThen_ok, run_convert_bytes_back w src dst e p cap l hs he hd (fun j hj => hl j l[j] (List.getElem?_eq_getElem hj))]
  exact hK _ _ h
end
/-- The first k bytes are t's, the others l's. -/
structure Mix (t l : List UInt8) (w : World) (g k : Nat) : Prop where
  len : t.length = l.length
  cell : ∀ (j : Nat) (b : UInt8), (if j < k then t[j]? else l[j]?) = some b → w.cell? ⟨g, j, none⟩ = some (.int .u8 (b.toNat : Int))
  free : ∀ (j : Nat), j < l.length → w.frozen? ⟨g, j, none⟩ = false
theorem Mix.start {t l : List UInt8} {w : World} {g : Nat} (hl : t.length = l.length) (h : Lies w g l) : Mix t l w g 0 := ⟨hl, fun j b hj => h.cell j b (by simpa using hj), h.free⟩
theorem Mix.old {t l : List UInt8} {w : World} {g k : Nat} {b : UInt8} (h : Mix t l w g k) (hb : l[k]? = some b) : w.cell? ⟨g, k, none⟩ = some (.int .u8 (b.toNat : Int)) := h.cell k b (by rw [if_neg (by omega)]; exact hb)
theorem Mix.set {t l : List UInt8} {w : World} {g k : Nat} {c : UInt8} (h : Mix t l w g k) (hc : t[k]? = some c) : Mix t l (w.setCell ⟨g, k, none⟩ (.int .u8 (c.toNat : Int))) g (k + 1) := by
  refine ⟨h.len, fun j b hj => ?_, fun j hj => by rw [World.frozen?_setCell]; exact h.free j hj⟩
  have hk := lt_of_at hc
  by_cases h1 : j = k
  · subst h1
    rw [if_pos (by omega), hc] at hj
    obtain rfl := Option.some.inj hj
    have hj2 : j < l.length := by rw [← h.len]; exact hk
    exact World.cell?_setCell_same w _ _ (h.old (List.getElem?_eq_getElem hj2))
  · rw [World.cell?_setCell_other w _ _ _ (by intro e; injection e with _ e2 _; exact h1 e2.symm)]
    refine h.cell j b ?_
    by_cases h2 : j < k
    · rw [if_pos h2]; rwa [if_pos (by omega)] at hj
    · rw [if_neg h2]; rwa [if_neg (by omega)] at hj
theorem Mix.skip {t l : List UInt8} {w : World} {g k : Nat} {c : UInt8} (h : Mix t l w g k) (hc : t[k]? = some c) (hl : l[k]? = some c) : Mix t l w g (k + 1) := by
  refine ⟨h.len, fun j b hj => ?_, h.free⟩
  by_cases h1 : j = k
  · subst h1
    rw [if_pos (by omega), hc] at hj
    obtain rfl := Option.some.inj hj
    exact h.old hl
  · refine h.cell j b ?_
    by_cases h2 : j < k
    · rw [if_pos h2]; rwa [if_pos (by omega)] at hj
    · rw [if_neg h2]; rwa [if_neg (by omega)] at hj
theorem Mix.done {t l : List UInt8} {w : World} {g : Nat} (h : Mix t l w g l.length) : ∀ (j : Nat) (b : UInt8), t[j]? = some b → w.cell? ⟨g, j, none⟩ = some (.int .u8 (b.toNat : Int)) := fun j b hj => h.cell j b (by rw [if_pos (by rw [← h.len]; exact lt_of_at hj)]; exact hj)

theorem refCall_none (s x : ByteArray) (h : fnL s.data.toList = false) (w : World) : Calls Tryz.prog 43 #[.string s, .string x] w fun e w' => e = .returned (callV (callL s.data.toList x.data.toList)) ∧ Below w.heap.size w w' := by
  have HT := Lib.hid (known_any s w)
  rw [h] at HT
  have Hr := Lib.hid (call_no (v := x.data.toList) h)
  clear h
  go_enter Tryz.func43, Tryz.ntmps43
  go_wp2_with fail
  refine HT.out.mono ?_
  rintro e w1 ⟨rfl, hb⟩
  have Hb := Lib.hid hb
  clear hb
  go_wp2_with fail
  go_ret2
  rw [Hr.out]
  exact ⟨rfl, Hb.out⟩
theorem refCall_long (s x : ByteArray) (h : fnL s.data.toList = true) (hl : ¬ x.data.toList.length ≤ 200) (w : World) : Calls Tryz.prog 43 #[.string s, .string x] w fun e w' => e = .returned (callV (callL s.data.toList x.data.toList)) ∧ Below w.heap.size w w' := by
  have HT := Lib.hid (known_any s w)
  rw [h] at HT
  have Hr := Lib.hid (call_long (v := x.data.toList) h hl)
  have hxl : x.data.toList.length = x.size := by simp
  rw [hxl] at hl
  have hl' : (200 : Int) < (x.size : Int) := by omega
  clear h hl hxl
  go_enter Tryz.func43, Tryz.ntmps43
  go_wp2_with fail
  refine HT.out.mono ?_
  rintro e w1 ⟨rfl, hb⟩
  have Hb := Lib.hid hb
  clear hb
  go_wp2_with fail
  go_ret2
  rw [Hr.out]
  exact ⟨rfl, Hb.out⟩
set_option maxHeartbeats 4000000 in
set_option maxRecDepth 100000 in
theorem refCall_double (x : ByteArray) (hl : x.size ≤ 200) (w : World) : Calls Tryz.prog 43 #[.string ⟨#[100, 111, 117, 98, 108, 101]⟩, .string x] w fun e w' => e = .returned (callV (callL nDouble x.data.toList)) ∧ Below w.heap.size w w' := by
  have hxl : x.data.toList.length = x.size := by simp
  have HT := Lib.hid (known_any ⟨#[100, 111, 117, 98, 108, 101]⟩ w)
  rw [show (⟨#[100, 111, 117, 98, 108, 101]⟩ : ByteArray).data.toList = nDouble from rfl, show fnL nDouble = true from by decide] at HT
  have Hr : Hid (callV (callL nDouble x.data.toList) = callV (dblV (dblL x.data.toList))) := Lib.hid (by rw [call_fn (by decide) (by rw [hxl]; exact hl), fun_double]; unfold dblV; cases dblL x.data.toList <;> rfl)
  clear hxl
  go_enter Tryz.func43, Tryz.ntmps43
  go_wp2_with fail
  refine HT.out.mono ?_
  rintro e w1 ⟨rfl, hb⟩
  have Hb1 := Lib.hid hb
  clear hb
  go_wp2_with (with_reducible refine wpList_bytes_of_string rfl 9 87 5 _ rfl x rfl Tryz.underlying9 Tryz.underlying87 Tryz.underlying5 ?_)
  intro bcap w2 hlies hb2 hzz hcap
  have HB2 := Lib.hid hb2
  have hsz2 := hb2.size
  clear hlies hb2
  have HF := Lib.hid (refDouble_any x (by omega) w2)
  obtain ⟨⟨U, E⟩, hUE⟩ : ∃ r, dblV (dblL x.data.toList) = r := ⟨_, rfl⟩
  rw [hUE] at HF Hr
  clear hUE
  unfold callV at HF Hr
  go_wp2_with fail
  refine HF.out.mono ?_
  rintro e w3 ⟨rfl, hb3⟩
  have Hb3 := Lib.hid hb3
  clear hb3
  dsimp only
  go_wp2_with fail
  go_ret2
  unfold callV
  rw [Hr.out]
  exact ⟨rfl, then_bel Hb1.out (then_bel HB2.out Hb3.out)⟩
set_option maxHeartbeats 4000000 in
set_option maxRecDepth 100000 in
theorem refCall_lower (x : ByteArray) (hl : x.size ≤ 200) (w : World) : Calls Tryz.prog 43 #[.string ⟨#[108, 111, 119, 101, 114]⟩, .string x] w fun e w' => e = .returned (callV (callL nLower x.data.toList)) ∧ Below w.heap.size w w' := by
  have hxl : x.data.toList.length = x.size := by simp
  have HT := Lib.hid (known_any ⟨#[108, 111, 119, 101, 114]⟩ w)
  rw [show (⟨#[108, 111, 119, 101, 114]⟩ : ByteArray).data.toList = nLower from rfl, show fnL nLower = true from by decide] at HT
  have Hr : Hid (callL nLower x.data.toList = (foldL x.data.toList, 0)) := Lib.hid (by rw [call_fn (by decide) (by rw [hxl]; exact hl), fun_lower])
  clear hxl
  go_enter Tryz.func43, Tryz.ntmps43
  go_wp2_with fail
  refine HT.out.mono ?_
  rintro e w1 ⟨rfl, hb⟩
  have Hb1 := Lib.hid hb
  clear hb
  go_wp2_with (with_reducible refine wpList_bytes_of_string rfl 9 87 5 _ rfl x rfl Tryz.underlying9 Tryz.underlying87 Tryz.underlying5 ?_)
  intro bcap w2 hlies hb2 hzz hcap
  have HB2 := Lib.hid hb2
  have hsz2 := hb2.size
  clear hlies hb2
  have HF := Lib.hid (refFold_any x (by omega) w2)
  go_wp2_with fail
  refine HF.out.mono ?_
  rintro e w3 ⟨rfl, hb3⟩
  have Hb3 := Lib.hid hb3
  clear hb3
  go_wp2_with fail
  go_ret2
  rw [Hr.out]
  exact ⟨rfl, then_bel Hb1.out (then_bel HB2.out Hb3.out)⟩
set_option maxHeartbeats 4000000 in
set_option maxRecDepth 100000 in
theorem refCall_reverse (x : ByteArray) (hl : x.size ≤ 200) (w : World) : Calls Tryz.prog 43 #[.string ⟨#[114, 101, 118, 101, 114, 115, 101]⟩, .string x] w fun e w' => e = .returned (callV (callL nReverse x.data.toList)) ∧ Below w.heap.size w w' := by
  have hxl : x.data.toList.length = x.size := by simp
  have HT := Lib.hid (known_any ⟨#[114, 101, 118, 101, 114, 115, 101]⟩ w)
  rw [show (⟨#[114, 101, 118, 101, 114, 115, 101]⟩ : ByteArray).data.toList = nReverse from rfl, show fnL nReverse = true from by decide] at HT
  have Hr : Hid (callL nReverse x.data.toList = (x.data.toList.reverse, 0)) := Lib.hid (by rw [call_fn (by decide) (by rw [hxl]; exact hl), fun_reverse])
  go_enter Tryz.func43, Tryz.ntmps43
  go_wp2_with fail
  refine HT.out.mono ?_
  rintro e w1 ⟨rfl, hb⟩
  have Hb1 := Lib.hid hb
  clear hb
  go_wp2_with (with_reducible refine wpList_bytes_of_string rfl 9 87 5 _ rfl x rfl Tryz.underlying9 Tryz.underlying87 Tryz.underlying5 ?_)
  intro bcap w2 hlies hb2 hzz hcap
  have HB2 := Lib.hid hb2
  have hsz2 := hb2.size
  have HM := Lib.hid (Mix.start (t := x.data.toList.reverse) (g := w1.heap.size) (by simp) hlies)
  have Hxl := Lib.hid hxl
  clear hlies hb2 hxl
  go_wp2_with fail
  go_loopw [8] (fun i wr => ∃ k : Nat, k ≤ x.size ∧ i = .int .i64 k ∧ Hid (Mix (x.data.toList.reverse) x.data.toList wr w1.heap.size k) ∧ Hid (Below w1.heap.size w1 wr) ∧ w1.heap.size < wr.heap.size) (fun i _ => x.size - (intOf i).toNat)
  case atStart => exact ⟨0, by omega, rfl, HM, HB2, hzz⟩
  case round =>
    clear HM HB2
    obtain ⟨k, hk, rfl, HM, HB, hlt0⟩ := hrel
    by_cases hlt : k < x.size
    · obtain ⟨b, hbl, hbk, hb0, hb1⟩ := byteAt x k hlt
      have hcell := HM.out.old hbl
      have hfz : wr.frozen? ⟨w1.heap.size, k, none⟩ = false := HM.out.free k (by rw [Hxl.out]; exact hlt)
      have hlt2 : x.size - 1 - k < x.size := by omega
      obtain ⟨c, hcl, hck, hc0, hc1⟩ := byteAt x (x.size - 1 - k) hlt2
      have hck' := hck hlt2
      have hix : ((x.size : Int) - 1 - (k : Int)).toNat = x.size - 1 - k := by omega
      have hrev : x.data.toList.reverse[k]? = some c := by rw [List.getElem?_reverse (by rw [Hxl.out]; exact hlt), Hxl.out]; exact hcl
      have HM3 := Lib.hid (HM.out.set hrev)
      have HB3 := Lib.hid (HB.out.setCell (p := ⟨w1.heap.size, k, none⟩) (Nat.le_refl _) (.int .u8 (c.toNat : Int)))
      clear hbl hcl hrev hbk
      go_wp2_with fail
      go_roundw
      case rel => exact ⟨k + 1, by omega, by go_num, HM3, HB3, by simpa using hlt0⟩
      case measure => simp [intOf]; omega
    · obtain rfl : k = x.size := by omega
      have Hd : Hid (∀ (j : Nat) (b : UInt8), (x.data.toList.reverse)[j]? = some b → wr.cell? ⟨w1.heap.size, j, none⟩ = some (.int .u8 (b.toNat : Int))) := Lib.hid (by
        have h := HM.out
        rw [← Hxl.out] at h
        exact h.done)
      have hTl : (x.data.toList.reverse).length = x.size := by rw [HM.out.len, Hxl.out]
      have HTl := Lib.hid hTl
      clear hTl
      go_wp2_with (with_reducible refine wpList_string_of_lies rfl 87 9 5 _ rfl w1.heap.size _ _ (x.data.toList.reverse) HTl.out rfl Tryz.underlying87 Tryz.underlying5 Tryz.underlying9 Hd.out ?_)
      go_wp2_with fail
      go_ret2
      rw [Hr.out]
      exact ⟨rfl, then_bel Hb1.out HB.out⟩
set_option maxHeartbeats 4000000 in
set_option maxRecDepth 100000 in
theorem refCall_upper (x : ByteArray) (hl : x.size ≤ 200) (w : World) : Calls Tryz.prog 43 #[.string ⟨#[117, 112, 112, 101, 114]⟩, .string x] w fun e w' => e = .returned (callV (callL nUpper x.data.toList)) ∧ Below w.heap.size w w' := by
  have hxl : x.data.toList.length = x.size := by simp
  have HT := Lib.hid (known_any ⟨#[117, 112, 112, 101, 114]⟩ w)
  rw [show (⟨#[117, 112, 112, 101, 114]⟩ : ByteArray).data.toList = nUpper from rfl, show fnL nUpper = true from by decide] at HT
  have Hr : Hid (callL nUpper x.data.toList = (upL x.data.toList, 0)) := Lib.hid (by rw [call_fn (by decide) (by rw [hxl]; exact hl), fun_upper])
  go_enter Tryz.func43, Tryz.ntmps43
  go_wp2_with fail
  refine HT.out.mono ?_
  rintro e w1 ⟨rfl, hb⟩
  have Hb1 := Lib.hid hb
  clear hb
  go_wp2_with (with_reducible refine wpList_bytes_of_string rfl 9 87 5 _ rfl x rfl Tryz.underlying9 Tryz.underlying87 Tryz.underlying5 ?_)
  intro bcap w2 hlies hb2 hzz hcap
  have HB2 := Lib.hid hb2
  have hsz2 := hb2.size
  have HM := Lib.hid (Mix.start (t := upL x.data.toList) (g := w1.heap.size) (by simp [upL]) hlies)
  have Hxl := Lib.hid hxl
  clear hlies hb2 hxl
  go_wp2_with fail
  go_loopw [9] (fun i wr => ∃ k : Nat, k ≤ x.size ∧ i = .int .i64 k ∧ Hid (Mix (upL x.data.toList) x.data.toList wr w1.heap.size k) ∧ Hid (Below w1.heap.size w1 wr) ∧ w1.heap.size < wr.heap.size) (fun i _ => x.size - (intOf i).toNat)
  case atStart => exact ⟨0, by omega, rfl, HM, HB2, hzz⟩
  case round =>
    clear HM HB2
    obtain ⟨k, hk, rfl, HM, HB, hlt0⟩ := hrel
    by_cases hlt : k < x.size
    · obtain ⟨b, hbl, hbk, hb0, hb1⟩ := byteAt x k hlt
      have hcell := HM.out.old hbl
      have hfz : wr.frozen? ⟨w1.heap.size, k, none⟩ = false := HM.out.free k (by rw [Hxl.out]; exact hlt)
      have hup : (upL x.data.toList)[k]? = some (upB b) := by unfold upL; rw [List.getElem?_map, hbl]; rfl
      by_cases hin : 97 ≤ b.toNat ∧ b.toNat ≤ 122
      · have Hs := Lib.hid (upB_small hin)
        have HM3 := Lib.hid (HM.out.set hup)
        have HB3 := Lib.hid (HB.out.setCell (p := ⟨w1.heap.size, k, none⟩) (Nat.le_refl _) (.int .u8 ((upB b).toNat : Int)))
        have e3 : (((upB b).toNat : Nat) : Int) = (b.toNat : Int) - 32 := by rw [Hs.out]; omega
        rw [e3] at HM3 HB3
        obtain ⟨g1, g2⟩ := hin
        have g1' : (97 : Int) ≤ (b.toNat : Int) := by omega
        have g2' : (b.toNat : Int) ≤ 122 := by omega
        clear hbl hup hbk g1 g2 e3
        go_wp2_with fail
        go_roundw
        case rel => exact ⟨k + 1, by omega, by go_num, HM3, HB3, by simpa using hlt0⟩
        case measure => simp [intOf]; omega
      · have Hs := upB_other hin
        rw [Hs] at hup
        have HM3 := Lib.hid (HM.out.skip hup hbl)
        clear hbl hup hbk Hs
        rcases (show b.toNat < 97 ∨ (97 ≤ b.toNat ∧ 122 < b.toNat) by omega) with g | ⟨g, g'⟩
        · have q : decide (97 ≤ (b.toNat : Int)) = false := by simp; omega
          clear hin g
          go_wp2_with fail
          go_roundw
          case rel => exact ⟨k + 1, by omega, by go_num, HM3, HB, hlt0⟩
          case measure => simp [intOf]; omega
        · have q : decide (97 ≤ (b.toNat : Int)) = true := by simp; omega
          have q' : decide ((b.toNat : Int) ≤ 122) = false := by simp; omega
          clear hin g g'
          go_wp2_with fail
          go_roundw
          case rel => exact ⟨k + 1, by omega, by go_num, HM3, HB, hlt0⟩
          case measure => simp [intOf]; omega
    · obtain rfl : k = x.size := by omega
      have Hd : Hid (∀ (j : Nat) (b : UInt8), (upL x.data.toList)[j]? = some b → wr.cell? ⟨w1.heap.size, j, none⟩ = some (.int .u8 (b.toNat : Int))) := Lib.hid (by
        have h := HM.out
        rw [← Hxl.out] at h
        exact h.done)
      have hTl : (upL x.data.toList).length = x.size := by rw [HM.out.len, Hxl.out]
      have HTl := Lib.hid hTl
      clear hTl
      go_wp2_with (with_reducible refine wpList_string_of_lies rfl 87 9 5 _ rfl w1.heap.size _ _ (upL x.data.toList) HTl.out rfl Tryz.underlying87 Tryz.underlying5 Tryz.underlying9 Hd.out ?_)
      go_wp2_with fail
      go_ret2
      rw [Hr.out]
      exact ⟨rfl, then_bel Hb1.out HB.out⟩
set_option maxHeartbeats 4000000 in
set_option maxRecDepth 100000 in
theorem refCall_trim (x : ByteArray) (hl : x.size ≤ 200) (w : World) : Calls Tryz.prog 43 #[.string ⟨#[116, 114, 105, 109]⟩, .string x] w fun e w' => e = .returned (callV (callL nTrim x.data.toList)) ∧ Below w.heap.size w w' := by
  have hxl : x.data.toList.length = x.size := by simp
  have HT := Lib.hid (known_any ⟨#[116, 114, 105, 109]⟩ w)
  rw [show (⟨#[116, 114, 105, 109]⟩ : ByteArray).data.toList = nTrim from rfl, show fnL nTrim = true from by decide] at HT
  have Hr : Hid (callL nTrim x.data.toList = (ini.tri x.data.toList, 0)) := Lib.hid (by rw [call_fn (by decide) (by rw [hxl]; exact hl), fun_trim])
  have HK := Lib.hid blank_any
  go_enter Tryz.func43, Tryz.ntmps43
  go_wp2_with fail
  refine HT.out.mono ?_
  rintro e w1 ⟨rfl, hb⟩
  have Hb1 := Lib.hid hb
  clear hb
  go_wp2_with (with_reducible refine wpList_bytes_of_string rfl 9 87 5 _ rfl x rfl Tryz.underlying9 Tryz.underlying87 Tryz.underlying5 ?_)
  intro bcap w2 hlies hb2 hzz hcap
  have HB2 := Lib.hid hb2
  have hsz2 := hb2.size
  have HL := Lib.hid hlies
  have Hxl := Lib.hid hxl
  clear hlies hb2 hxl
  go_wp2_with fail
  go_loop [7] (fun vb => ∃ (o m c oo : Nat), vb = .slice (some ⟨w1.heap.size, oo, none⟩) m c ∧ m ≤ c ∧ o + m = x.size ∧ (0 < m → oo = o) ∧ Hid (ini.triL (x.data.toList.drop o) = ini.triL x.data.toList)) (fun vb => match vb with | .slice _ m _ => m | _ => 0)
  case atStart => exact ⟨0, x.size, bcap, 0, rfl, hcap, by omega, fun _ => rfl, Lib.hid rfl⟩
  case round =>
    obtain ⟨o, m, c, oo, rfl, hmc, hom, hoo, HT1⟩ := hrel
    by_cases hgo : 0 < m ∧ ∃ b : UInt8, x.data.toList[o]? = some b ∧ ini.blk b = true
    · obtain ⟨hm, b, hb, hbl⟩ := hgo
      obtain rfl := hoo hm
      have hcell : w2.cell? ⟨w1.heap.size, oo, none⟩ = some (.int .u8 (b.toNat : Int)) := HL.out.cell oo b hb
      have HKb := Lib.hid fun W => HK.out b W
      rw [hbl] at HKb
      have HT2 : Hid (ini.triL (x.data.toList.drop (oo + 1)) = ini.triL x.data.toList) := Lib.hid (by
        rw [← HT1.out]
        have hlt := lt_of_at hb
        rw [List.drop_eq_getElem_cons hlt]
        have e : x.data.toList[oo] = b := by rw [List.getElem?_eq_getElem hlt] at hb; exact Option.some.inj hb
        rw [e]
        exact (ini.triL_pre (p := [b]) (l := x.data.toList.drop (oo + 1)) (by intro y hy; simp at hy; rw [hy]; exact hbl)).symm)
      have hm' : (0 : Int) < (m : Int) := by omega
      clear hb hbl HT1
      by_cases hc1 : c = 1
      · subst hc1
        obtain rfl : m = 1 := by omega
        go_wp2_with fail
        refine (HKb.out _).mono ?_
        rintro e w3 ⟨rfl, rfl⟩
        go_wp2_with fail
        go_round
        case rel => exact ⟨oo + 1, 0, 0, _, rfl, by omega, by omega, fun h => by omega, HT2⟩
        case measure => simp
      · have hc2 : 1 < c := by omega
        have hm1 : 1 ≤ m := hm
        go_wp2_with fail
        refine (HKb.out _).mono ?_
        rintro e w3 ⟨rfl, rfl⟩
        go_wp2_with fail
        go_round
        case rel => exact ⟨oo + 1, m - 1, c - 1, _, rfl, by omega, by omega, fun h => by omega, HT2⟩
        case measure => simp; omega
    · have HTL : Hid (x.data.toList.drop o = ini.triL x.data.toList) := Lib.hid (by
        rw [← HT1.out]
        cases hd : x.data.toList.drop o with
        | nil => rfl
        | cons a r =>
          refine (ini.triL_first ?_).symm
          have ho : o < x.data.toList.length := by
            rcases Nat.lt_or_ge o x.data.toList.length with h | h
            · exact h
            · rw [List.drop_eq_nil_of_le h] at hd; cases hd
          rw [List.drop_eq_getElem_cons ho] at hd
          simp at hd
          cases hbk : ini.blk a with
          | false => rfl
          | true => exact absurd ⟨by rw [Hxl.out] at ho; omega, a, by rw [List.getElem?_eq_getElem ho]; exact congrArg some hd.1, hbk⟩ hgo)
      have Hoo := Lib.hid hoo
      clear hoo
      rcases Nat.eq_zero_or_pos m with h0 | h0
      case' inl =>
        have hmz : decide (0 < (m : Int)) = false := by simp; omega
        have hmz' : decide (0 < m) = false := by simp; omega
        clear hgo HT1 h0
        go_wp2_with fail
        clear hmz hmz'
      case' inr =>
        have ho2 : o < x.size := by omega
        obtain ⟨b, hb, _, hb0, hb1⟩ := byteAt x o ho2
        have hcell : w2.cell? ⟨w1.heap.size, oo, none⟩ = some (.int .u8 (b.toNat : Int)) := by rw [Hoo.out h0]; exact HL.out.cell o b hb
        have HKb := Lib.hid fun W => HK.out b W
        have hbl : ini.blk b = false := by
          cases hbk : ini.blk b with
          | false => rfl
          | true => exact absurd ⟨h0, b, hb, hbk⟩ hgo
        rw [hbl] at HKb
        have hm' : (0 : Int) < (m : Int) := by omega
        clear hgo HT1 hb hbl
        go_wp2_with fail
        refine (HKb.out _).mono ?_
        rintro e w3 ⟨rfl, rfl⟩
        clear hcell hb0 hb1 HKb
        go_wp2_with fail
        clear hm' h0 ho2
      all_goals
        go_loop [7] (fun vb => ∃ (m' c' : Nat), vb = .slice (some ⟨w1.heap.size, oo, none⟩) m' c' ∧ m' ≤ c' ∧ m' ≤ m ∧ Hid (ini.triR ((x.data.toList.drop o).take m') = ini.triR (x.data.toList.drop o))) (fun vb => match vb with | .slice _ m _ => m | _ => 0)
        case atStart => exact ⟨m, c, rfl, hmc, Nat.le_refl _, Lib.hid (by rw [List.take_of_length_le (by rw [List.length_drop, Hxl.out]; omega)])⟩
        case round =>
          obtain ⟨n, c', rfl, hnc, hnm, HR1⟩ := hrel
          by_cases hgo : 0 < n ∧ ∃ b : UInt8, x.data.toList[o + (n - 1)]? = some b ∧ ini.blk b = true
          · obtain ⟨hn0, b, hb, hbl⟩ := hgo
            have hcell : w2.cell? ⟨w1.heap.size, oo + (n - 1), none⟩ = some (.int .u8 (b.toNat : Int)) := by rw [Hoo.out (by omega)]; exact HL.out.cell _ b hb
            have HKb := Lib.hid fun W => HK.out b W
            rw [hbl] at HKb
            have hix : ((n : Int) - 1).toNat = n - 1 := by omega
            have HR2 : Hid (ini.triR ((x.data.toList.drop o).take (n - 1)) = ini.triR (x.data.toList.drop o)) := Lib.hid (by
              rw [← HR1.out]
              have hget : (x.data.toList.drop o)[n - 1]? = some b := by rw [List.getElem?_drop]; exact hb
              have hlt := lt_of_at hget
              have e : (x.data.toList.drop o).take n = (x.data.toList.drop o).take (n - 1) ++ [b] := by
                conv => lhs; rw [show n = (n - 1) + 1 by omega]
                rw [List.take_succ_eq_append_getElem hlt]
                rw [List.getElem?_eq_getElem hlt] at hget
                rw [Option.some.inj hget]
              rw [e, ini.triR_suf (by intro y hy; simp at hy; rw [hy]; exact hbl)])
            have hn' : (0 : Int) < (n : Int) := by omega
            have hn1 : (1 : Int) ≤ (n : Int) := by omega
            clear hb hbl HR1
            go_wp2_with fail
            refine (HKb.out _).mono ?_
            rintro e w3 ⟨rfl, rfl⟩
            go_wp2_with fail
            go_round
            case rel => exact ⟨n - 1, c', by first | rfl | (congr 1; omega), by omega, by omega, HR2⟩
            case measure => simp; omega
          · have HRR : Hid ((x.data.toList.drop o).take n = ini.tri x.data.toList) := Lib.hid (by
              show _ = ini.triR (ini.triL x.data.toList)
              rw [← HTL.out, ← HR1.out]
              have hlen : ((x.data.toList.drop o).take n).length = n := by rw [List.length_take, List.length_drop, Hxl.out]; omega
              rcases List.eq_nil_or_concat ((x.data.toList.drop o).take n) with h | ⟨r, a, h⟩
              · rw [h]; rfl
              · rw [List.concat_eq_append] at h
                rw [h]
                refine (ini.triR_last ?_).symm
                have hn0 : 0 < n := by rw [h] at hlen; simp at hlen; omega
                have hget : (x.data.toList.drop o)[n - 1]? = some a := by
                  have h2 : ((x.data.toList.drop o).take n)[n - 1]? = some a := by
                    rw [h] at hlen ⊢
                    have : n - 1 = r.length := by simp at hlen; omega
                    rw [this]; simp
                  rwa [List.getElem?_take_of_lt (by omega)] at h2
                rw [List.getElem?_drop] at hget
                cases hbk : ini.blk a with
                | false => rfl
                | true => exact absurd ⟨hn0, a, hget, hbk⟩ hgo)
            have Hcells : Hid (∀ (j : Nat) (b : UInt8), (ini.tri x.data.toList)[j]? = some b → w2.cell? ((⟨w1.heap.size, oo, none⟩ : Addr).add j) = some (.int .u8 (b.toNat : Int))) := Lib.hid fun j b hj => by
              rw [← HRR.out] at hj
              have hjn : j < n := by
                have := lt_of_at hj
                rw [List.length_take] at this
                omega
              rw [List.getElem?_take_of_lt hjn, List.getElem?_drop] at hj
              rw [ls.addN, Hoo.out (by omega)]
              exact HL.out.cell _ b hj
            have HTn : Hid ((ini.tri x.data.toList).length = n) := Lib.hid (by rw [← HRR.out, List.length_take, List.length_drop, Hxl.out]; omega)
            rcases Nat.eq_zero_or_pos n with h0 | h0
            case' inl =>
              have hnz : decide (0 < (n : Int)) = false := by simp; omega
              have hnz' : decide (0 < n) = false := by simp; omega
              clear hgo HR1 h0
            case' inr =>
              have ho2 : o + (n - 1) < x.size := by omega
              obtain ⟨b, hb, _, hb0, hb1⟩ := byteAt x (o + (n - 1)) ho2
              have hcell : w2.cell? ⟨w1.heap.size, oo + (n - 1), none⟩ = some (.int .u8 (b.toNat : Int)) := by rw [Hoo.out (by omega)]; exact HL.out.cell _ b hb
              have HKb := Lib.hid fun W => HK.out b W
              have hbl : ini.blk b = false := by
                cases hbk : ini.blk b with
                | false => rfl
                | true => exact absurd ⟨h0, b, hb, hbk⟩ hgo
              rw [hbl] at HKb
              have hix : ((n : Int) - 1).toNat = n - 1 := by omega
              have hn' : (0 : Int) < (n : Int) := by omega
              have hn1 : (1 : Int) ≤ (n : Int) := by omega
              clear hgo HR1 hb hbl
              go_wp2_with fail
              refine (HKb.out _).mono ?_
              rintro e w3 ⟨rfl, rfl⟩
              clear hcell hb0 hb1 HKb
            all_goals
              go_wp2_with (with_reducible refine wpList_string_at rfl 87 9 5 _ rfl ⟨w1.heap.size, oo, none⟩ _ _ (ini.tri x.data.toList) HTn.out rfl Tryz.underlying87 Tryz.underlying5 Tryz.underlying9 Hcells.out ?_)
              go_wp2_with fail
              go_ret2
              rw [Hr.out]
              exact ⟨rfl, then_bel Hb1.out HB2.out⟩
theorem refCall_any (s x : ByteArray) (w : World) : Calls Tryz.prog 43 #[.string s, .string x] w fun e w' => e = .returned (callV (callL s.data.toList x.data.toList)) ∧ Below w.heap.size w w' := by
  cases hf : fnL s.data.toList with
  | false => exact refCall_none s x hf w
  | true =>
    by_cases hl : x.data.toList.length ≤ 200
    · have hl2 : x.size ≤ 200 := by rw [toList_len] at hl; exact hl
      have hf' := hf
      unfold fnL at hf'
      rw [decide_eq_true_eq] at hf'
      rcases hf' with h | h | h | h | h
      · rw [h, B_eq h]; exact refCall_double x hl2 w
      · rw [h, B_eq h]; exact refCall_lower x hl2 w
      · rw [h, B_eq h]; exact refCall_reverse x hl2 w
      · rw [h, B_eq h]; exact refCall_trim x hl2 w
      · rw [h, B_eq h]; exact refCall_upper x hl2 w
    · exact refCall_long s x hf hl w
end Go.Proofs.YthjcifokmcbaoaaGreatDoor.st
/- step.Right and the reference's Right return whether a step may be. Conditions: texts of at most 2147483647 bytes; the listed variables hold what the program's text lays. -/
namespace Go.Proofs.YthjcifokmcbaoaaGreatDoor.st
open Go.ChangeShapes Go.WideShapes Go.ChangeAt Go.RowKit gl

theorem ein_fn2 (f : Fn) (b : Array Value) (W : World) : (binOp .neq 81 (.func f #[] b) .nilFunc).run Tryz.prog W = .ok (.bool true) W := by
  simp only [binOp]
  simp [Op.equal, Op.maxDepth, ein_fn 9999 _ _ _ _ f #[] b W Tryz.underlying81]
theorem neq_nilf (W : World) : (binOp .neq 81 .nilFunc .nilFunc).run Tryz.prog W = .ok (.bool false) W := by
  simp only [binOp]
  simp [Op.equal, Op.maxDepth, ein_nil 9999 _ _ _ _ W Tryz.underlying81]
def ToldOut (l : List UInt8) (e : Ending) : Prop := (fnL l = false ∧ e = .returned .nilFunc) ∨ (fnL l = true ∧ ∃ (f : Fn) (b : Array Value), e = .returned (.func f #[] b))
theorem told_any (s : ByteArray) (w : World) (hS : Slo w) : Calls Tryz.prog 67 #[.string s] w fun e w' => ToldOut s.data.toList e ∧ Below w.heap.size w w' := by
  cases hf : fnL s.data.toList with
  | false =>
    refine (told_none s hf w hS).mono ?_
    rintro e w' ⟨rfl, rfl⟩
    exact ⟨.inl ⟨hf, rfl⟩, Below.refl _ _⟩
  | true =>
    have hf' := hf
    unfold fnL at hf'
    rw [decide_eq_true_eq] at hf'
    rcases hf' with h | h | h | h | h
    · rw [B_eq h]; refine (told_double w hS).mono ?_; rintro e w' ⟨rfl, rfl⟩; exact ⟨.inr ⟨by decide, _, _, rfl⟩, Below.refl _ _⟩
    · rw [B_eq h]; refine (told_lower w hS).mono ?_; rintro e w' ⟨rfl, rfl⟩; exact ⟨.inr ⟨by decide, _, _, rfl⟩, (Below.refl _ _).alloc (Nat.le_refl _) _⟩
    · rw [B_eq h]; refine (told_reverse w hS).mono ?_; rintro e w' ⟨rfl, rfl⟩; exact ⟨.inr ⟨by decide, _, _, rfl⟩, Below.refl _ _⟩
    · rw [B_eq h]; refine (told_trim w hS).mono ?_; rintro e w' ⟨rfl, rfl⟩; exact ⟨.inr ⟨by decide, _, _, rfl⟩, Below.refl _ _⟩
    · rw [B_eq h]; refine (told_upper w hS).mono ?_; rintro e w' ⟨rfl, rfl⟩; exact ⟨.inr ⟨by decide, _, _, rfl⟩, (Below.refl _ _).alloc (Nat.le_refl _) _⟩
theorem r3_drew {w0 wp : World} {b : Nat} {x2 x3 x4 : Value} (h : wp.cell? ⟨b, 2, none⟩ = some x2 ∧ wp.cell? ⟨b, 3, none⟩ = some x3 ∧ wp.cell? ⟨b, 4, none⟩ = some x4 ∧ Hid (Below w0.heap.size w0 wp)) :
    wp.drew.cell? ⟨b, 2, none⟩ = some x2 ∧ wp.drew.cell? ⟨b, 3, none⟩ = some x3 ∧ wp.drew.cell? ⟨b, 4, none⟩ = some x4 ∧ Hid (Below w0.heap.size w0 wp.drew) := ⟨h.1, h.2.1, h.2.2.1, Lib.hid h.2.2.2.out.drew⟩
theorem r3_call {w0 wp w' : World} {b : Nat} {x2 x3 x4 : Value} (h : wp.cell? ⟨b, 2, none⟩ = some x2 ∧ wp.cell? ⟨b, 3, none⟩ = some x3 ∧ wp.cell? ⟨b, 4, none⟩ = some x4 ∧ Hid (Below w0.heap.size w0 wp)) (hb : Below wp.heap.size wp w') :
    w'.cell? ⟨b, 2, none⟩ = some x2 ∧ w'.cell? ⟨b, 3, none⟩ = some x3 ∧ w'.cell? ⟨b, 4, none⟩ = some x4 ∧ Hid (Below w0.heap.size w0 w') :=
  have hlt := World.block_lt_of_cell? _ _ h.1
  ⟨(hb.cell (p := ⟨b, 2, none⟩) hlt).trans h.1, (hb.cell (p := ⟨b, 3, none⟩) hlt).trans h.2.1, (hb.cell (p := ⟨b, 4, none⟩) hlt).trans h.2.2.1, Lib.hid (h.2.2.2.out.trans (hb.mono h.2.2.2.out.size))⟩
theorem r3_slo {w0 wp : World} {b : Nat} {x2 x3 x4 : Value} (hS : Slo w0) (h : wp.cell? ⟨b, 2, none⟩ = some x2 ∧ wp.cell? ⟨b, 3, none⟩ = some x3 ∧ wp.cell? ⟨b, 4, none⟩ = some x4 ∧ Hid (Below w0.heap.size w0 wp)) : Slo wp := hS.later h.2.2.2.out
theorem isE (s : ByteArray) : s.toList.isEmpty = s.data.toList.isEmpty := by rw [ByteArray.toList_eq]
theorem isE2 (s : ByteArray) : (s.toList == []) = s.data.toList.isEmpty := by rw [ByteArray.toList_eq]; cases s.data.toList <;> rfl
theorem isE3 (s : ByteArray) : (s.toList != []) = !s.data.toList.isEmpty := by rw [bne, isE2]
theorem right_eq (kd : Int) (t k o x : List UInt8) : rightL ⟨kd, t, k, o, x⟩ = (wordL t && (if kd = 1 then wordL k && o.isEmpty && decide (x.length ≤ 200) else if kd = 2 then (wordL k || k.isEmpty) && o.isEmpty && x.isEmpty else if kd = 3 ∨ kd = 6 then wordL k && wordL o && x.isEmpty else if kd = 4 then k.isEmpty && wordL o && x.isEmpty else if kd = 5 then k.isEmpty && o.isEmpty && fnL x else false)) := rfl
set_option maxHeartbeats 8000000 in
set_option maxRecDepth 100000 in
theorem Right_any (kd : Int) (t k o x : ByteArray) (ht : t.size ≤ 2147483647) (hk : k.size ≤ 2147483647) (ho : o.size ≤ 2147483647) (hx : x.size ≤ 2147483647) (w : World) (hS : Slo w) :
    Calls Tryz.prog 27 #[.agg #[.int .i64 kd, .string t, .string k, .string o, .string x]] w fun e w' => e = .returned (.bool (rightL ⟨kd, t.data.toList, k.data.toList, o.data.toList, x.data.toList⟩)) ∧ Below w.heap.size w w' := by
  have Hr := Lib.hid (right_eq kd t.data.toList k.data.toList o.data.toList x.data.toList)
  have HK := Lib.hid fun W (h : Slo W) => IsWord_any k hk W h.glo
  have HO := Lib.hid fun W (h : Slo W) => IsWord_any o ho W h.glo
  have HTb := Lib.hid fun W (h : Slo W) => IsWord_any t ht W h.glo
  have hk1 := isE k
  have hk2 := isE2 k
  have ho1 := isE o
  have ho2 := isE2 o
  have hx1 := isE x
  have hx2 := isE2 x
  have hx3 := isE3 x
  have hxl : x.data.toList.length = x.size := by simp
  have hxb : decide (x.data.toList.length ≤ 200) = decide ((x.size : Int) ≤ 200) := by rw [hxl, decide_eq_decide]; omega
  rw [hxb] at Hr
  obtain ⟨bx, hbx⟩ : ∃ bx, decide ((x.size : Int) ≤ 200) = bx := ⟨_, rfl⟩
  rw [hbx] at Hr
  clear hxb hxl
  generalize rightL ⟨kd, t.data.toList, k.data.toList, o.data.toList, x.data.toList⟩ = R at *
  generalize wordL t.data.toList = wt at *
  generalize wordL k.data.toList = wk at *
  generalize wordL o.data.toList = wo at *
  generalize k.data.toList.isEmpty = ek at *
  generalize o.data.toList.isEmpty = eo at *
  generalize x.data.toList.isEmpty = ex at *
  generalize hfx : fnL x.data.toList = bf at *
  obtain ⟨wA, hA⟩ : ∃ wA, wA = w.alloc (.cells #[.int .i64 kd, .string t, .string k, .string o, .string x] 42) := ⟨_, rfl⟩
  have hbk : wA.heap[w.heap.size]? = some (.cells #[.int .i64 kd, .string t, .string k, .string o, .string x] 42 (0, 0)) := by rw [hA]; exact heap_alloc_new w _
  have HbA : Hid (Below w.heap.size w wA) := Lib.hid (by rw [hA]; exact (Below.refl _ _).alloc (Nat.le_refl _) _)
  have hlA : w.heap.size < wA.heap.size := by rw [hA]; simp
  have HA := Lib.hid hA
  have Hbk := Lib.hid hbk
  clear hA hbk
  have HS : Hid (Slo wA) := Lib.hid (hS.later HbA.out)
  have HT := Lib.hid fun W (hW : Below wA.heap.size wA W) => told_any x W (HS.out.later hW)
  have hnil := neq_nilf
  have hnot := ein_fn2
  clear hS
  go_enter Tryz.func27, Tryz.ntmps27
  go_wp2_with fail
  rw [← HA.out]
  have c2 : wA.cell? ⟨w.heap.size, 2, none⟩ = some (.string k) := cell_in (o := 2) Hbk.out
  have c3 : wA.cell? ⟨w.heap.size, 3, none⟩ = some (.string o) := cell_in (o := 3) Hbk.out
  have c4 : wA.cell? ⟨w.heap.size, 4, none⟩ = some (.string x) := cell_in (o := 4) Hbk.out
  have hSt : wA.cell? ⟨w.heap.size, 2, none⟩ = some (.string k) ∧ wA.cell? ⟨w.heap.size, 3, none⟩ = some (.string o) ∧ wA.cell? ⟨w.heap.size, 4, none⟩ = some (.string x) ∧ Hid (Below wA.heap.size wA wA) := ⟨c2, c3, c4, Lib.hid (Below.refl _ _)⟩
  go_region_held3 (fun w' => w'.cell? ⟨w.heap.size, 2, none⟩ = some (.string k) ∧ w'.cell? ⟨w.heap.size, 3, none⟩ = some (.string o) ∧ w'.cell? ⟨w.heap.size, 4, none⟩ = some (.string x) ∧ Hid (Below wA.heap.size wA w'))
    (first | assumption | (with_reducible exact r3_drew (by assumption)))
    (first
      | (go_at_call 66; (with_reducible refine Calls.mono (HK.out _ (r3_slo HS.out (by assumption))) ?_); rintro e w' ⟨rfl, hb⟩; have hS' := r3_call (by assumption) hb; clear hb)
      | (go_at_call 66; (with_reducible refine Calls.mono (HO.out _ (r3_slo HS.out (by assumption))) ?_); rintro e w' ⟨rfl, hb⟩; have hS' := r3_call (by assumption) hb; clear hb))
  rename_i hH
  obtain ⟨wC, rfl⟩ : ∃ wC, wC = w' := ⟨_, rfl⟩
  have HbC := Lib.hid hH.2.2.2.out
  clear hH hSt c2 c3 c4
  have c1 : wC.cell? ⟨w.heap.size, 1, none⟩ = some (.string t) := (HbC.out.cell (p := ⟨w.heap.size, 1, none⟩) hlA).trans (cell_in (o := 1) Hbk.out)
  go_wp2_with fail
  refine (HTb.out _ (HS.out.later HbC.out)).mono ?_
  rintro e wD ⟨rfl, hbD⟩
  have HbD := Lib.hid (HbC.out.trans (hbD.mono HbC.out.size))
  have HbE := Lib.hid (then_bel HbA.out HbD.out)
  clear c1 hbD
  have f0 : wD.cell? ⟨w.heap.size, 0, none⟩ = some (.int .i64 kd) := (HbD.out.cell (p := ⟨w.heap.size, 0, none⟩) hlA).trans (cell_in (o := 0) Hbk.out)
  have f1 : wD.cell? ⟨w.heap.size, 1, none⟩ = some (.string t) := (HbD.out.cell (p := ⟨w.heap.size, 1, none⟩) hlA).trans (cell_in (o := 1) Hbk.out)
  have f2 : wD.cell? ⟨w.heap.size, 2, none⟩ = some (.string k) := (HbD.out.cell (p := ⟨w.heap.size, 2, none⟩) hlA).trans (cell_in (o := 2) Hbk.out)
  have f3 : wD.cell? ⟨w.heap.size, 3, none⟩ = some (.string o) := (HbD.out.cell (p := ⟨w.heap.size, 3, none⟩) hlA).trans (cell_in (o := 3) Hbk.out)
  have f4 : wD.cell? ⟨w.heap.size, 4, none⟩ = some (.string x) := (HbD.out.cell (p := ⟨w.heap.size, 4, none⟩) hlA).trans (cell_in (o := 4) Hbk.out)
  cases wt
  · go_wp2_with fail
    go_ret
    exact ⟨ret_bool (by rw [Hr.out]; rfl), HbE.out⟩
  · rw [Bool.true_and] at Hr
    rcases (show kd = 1 ∨ kd = 2 ∨ (kd = 3 ∨ kd = 6) ∨ kd = 4 ∨ kd = 5 ∨ (kd ≠ 1 ∧ kd ≠ 2 ∧ kd ≠ 3 ∧ kd ≠ 6 ∧ kd ≠ 4 ∧ kd ≠ 5) by omega) with h | h | h | h | h | ⟨n1, n2, n3, n6, n4, n5⟩
    · subst h
      cases wk
      all_goals cases eo
      all_goals cases bx
      all_goals
        go_wp2_with fail
        go_ret
        exact ⟨ret_bool Hr.out, HbE.out⟩
    · subst h
      cases wk
      all_goals cases ek
      all_goals cases eo
      all_goals cases ex
      all_goals
        go_wp2_with fail
        go_ret
        exact ⟨ret_bool Hr.out, HbE.out⟩
    · rcases h with rfl | rfl
      all_goals cases wk
      all_goals cases wo
      all_goals cases ex
      all_goals
        go_wp2_with fail
        go_ret
        exact ⟨ret_bool Hr.out, HbE.out⟩
    · subst h
      cases ek
      all_goals cases wo
      all_goals cases ex
      all_goals
        go_wp2_with fail
        go_ret
        exact ⟨ret_bool Hr.out, HbE.out⟩
    · subst h
      cases ek
      · go_wp2_with fail
        go_ret
        exact ⟨ret_bool Hr.out, HbE.out⟩
      · cases eo
        · go_wp2_with fail
          go_ret
          exact ⟨ret_bool Hr.out, HbE.out⟩
        · go_wp2_with fail
          refine (HT.out _ HbD.out).mono ?_
          rintro e w9 ⟨hto, hb9⟩
          have Hb9 := Lib.hid (then_bel HbE.out hb9)
          clear hb9
          rcases hto with ⟨hff, rfl⟩ | ⟨hff, f, b, rfl⟩
          · rw [hfx] at hff
            subst hff
            go_wp2_with fail
            go_ret
            exact ⟨ret_bool Hr.out, Hb9.out⟩
          · rw [hfx] at hff
            subst hff
            go_wp2_with fail
            go_ret
            exact ⟨ret_bool Hr.out, Hb9.out⟩
    · have q1 : (kd == 1) = false := by simpa using n1
      have q2 : (kd == 2) = false := by simpa using n2
      have q3 : (kd == 3) = false := by simpa using n3
      have q4 : (kd == 4) = false := by simpa using n4
      have q5 : (kd == 5) = false := by simpa using n5
      have q6 : (kd == 6) = false := by simpa using n6
      have Hr2 : Hid (R = false) := Lib.hid (by rw [Hr.out]; simp [n1, n2, n3, n4, n5, n6])
      clear n1 n2 n3 n4 n5 n6
      go_wp2_with fail
      go_ret
      rw [Hr2.out]
      exact ⟨rfl, HbE.out⟩
end Go.Proofs.YthjcifokmcbaoaaGreatDoor.st
/- The reference's Right returns whether a step may be. Conditions: texts of at most 2147483647 bytes. -/
namespace Go.Proofs.YthjcifokmcbaoaaGreatDoor.st
open Go.ChangeShapes Go.WideShapes Go.ChangeAt Go.RowKit gl

set_option maxHeartbeats 8000000 in
set_option maxRecDepth 100000 in
theorem refRight_any (kd : Int) (t k o x : ByteArray) (ht : t.size ≤ 2147483647) (hk : k.size ≤ 2147483647) (ho : o.size ≤ 2147483647) (hx : x.size ≤ 2147483647) (w : World) :
    Calls Tryz.prog 28 #[.agg #[.int .i64 kd, .string t, .string k, .string o, .string x]] w fun e w' => e = .returned (.bool (rightL ⟨kd, t.data.toList, k.data.toList, o.data.toList, x.data.toList⟩)) ∧ Below w.heap.size w w' := by
  have Hr := Lib.hid (right_eq kd t.data.toList k.data.toList o.data.toList x.data.toList)
  have HK := Lib.hid fun W => refIsWord_any k hk W
  have HO := Lib.hid fun W => refIsWord_any o ho W
  have HTb := Lib.hid fun W => refIsWord_any t ht W
  have hk1 := isE k
  have hk2 := isE2 k
  have ho1 := isE o
  have ho2 := isE2 o
  have hx1 := isE x
  have hx2 := isE2 x
  have hx3 := isE3 x
  have hxl : x.data.toList.length = x.size := by simp
  have hxb : decide (x.data.toList.length ≤ 200) = decide ((x.size : Int) ≤ 200) := by rw [hxl, decide_eq_decide]; omega
  rw [hxb] at Hr
  obtain ⟨bx, hbx⟩ : ∃ bx, decide ((x.size : Int) ≤ 200) = bx := ⟨_, rfl⟩
  rw [hbx] at Hr
  clear hxb hxl
  generalize rightL ⟨kd, t.data.toList, k.data.toList, o.data.toList, x.data.toList⟩ = R at *
  generalize wordL t.data.toList = wt at *
  generalize wordL k.data.toList = wk at *
  generalize wordL o.data.toList = wo at *
  generalize k.data.toList.isEmpty = ek at *
  generalize o.data.toList.isEmpty = eo at *
  generalize x.data.toList.isEmpty = ex at *
  generalize hfx : fnL x.data.toList = bf at *
  obtain ⟨wA, hA⟩ : ∃ wA, wA = w.alloc (.cells #[.int .i64 kd, .string t, .string k, .string o, .string x] 42) := ⟨_, rfl⟩
  have hbk : wA.heap[w.heap.size]? = some (.cells #[.int .i64 kd, .string t, .string k, .string o, .string x] 42 (0, 0)) := by rw [hA]; exact heap_alloc_new w _
  have HbA : Hid (Below w.heap.size w wA) := Lib.hid (by rw [hA]; exact (Below.refl _ _).alloc (Nat.le_refl _) _)
  have hlA : w.heap.size < wA.heap.size := by rw [hA]; simp
  have HA := Lib.hid hA
  have Hbk := Lib.hid hbk
  clear hA hbk
  have HT := Lib.hid fun W => known_any x W
  rw [hfx] at HT
  clear hfx
  go_enter Tryz.func28, Tryz.ntmps28
  go_wp2_with fail
  rw [← HA.out]
  have HbD := Lib.hid (Below.refl wA.heap.size wA)
  have HbE := HbA
  have f0 : wA.cell? ⟨w.heap.size, 0, none⟩ = some (.int .i64 kd) := (HbD.out.cell (p := ⟨w.heap.size, 0, none⟩) hlA).trans (cell_in (o := 0) Hbk.out)
  have f1 : wA.cell? ⟨w.heap.size, 1, none⟩ = some (.string t) := (HbD.out.cell (p := ⟨w.heap.size, 1, none⟩) hlA).trans (cell_in (o := 1) Hbk.out)
  have f2 : wA.cell? ⟨w.heap.size, 2, none⟩ = some (.string k) := (HbD.out.cell (p := ⟨w.heap.size, 2, none⟩) hlA).trans (cell_in (o := 2) Hbk.out)
  have f3 : wA.cell? ⟨w.heap.size, 3, none⟩ = some (.string o) := (HbD.out.cell (p := ⟨w.heap.size, 3, none⟩) hlA).trans (cell_in (o := 3) Hbk.out)
  have f4 : wA.cell? ⟨w.heap.size, 4, none⟩ = some (.string x) := (HbD.out.cell (p := ⟨w.heap.size, 4, none⟩) hlA).trans (cell_in (o := 4) Hbk.out)
  go_wp2_with fail
  refine (HTb.out _).mono ?_
  rintro e wD ⟨rfl, rfl⟩
  go_wp2_with fail
  refine (HK.out _).mono ?_
  rintro e wD ⟨rfl, rfl⟩
  go_wp2_with fail
  refine (HO.out _).mono ?_
  rintro e wD ⟨rfl, rfl⟩
  cases wt
  · go_wp2_with fail
    go_ret
    exact ⟨ret_bool (by rw [Hr.out]; rfl), HbE.out⟩
  · rw [Bool.true_and] at Hr
    rcases (show kd = 1 ∨ kd = 2 ∨ (kd = 3 ∨ kd = 6) ∨ kd = 4 ∨ kd = 5 ∨ (kd ≠ 1 ∧ kd ≠ 2 ∧ kd ≠ 3 ∧ kd ≠ 6 ∧ kd ≠ 4 ∧ kd ≠ 5) by omega) with h | h | h | h | h | ⟨n1, n2, n3, n6, n4, n5⟩
    · subst h
      cases wk
      all_goals cases eo
      all_goals cases bx
      all_goals
        go_wp2_with fail
        go_ret
        exact ⟨ret_bool Hr.out, HbE.out⟩
    · subst h
      cases wk
      all_goals cases ek
      all_goals cases eo
      all_goals cases ex
      all_goals
        go_wp2_with fail
        go_ret
        exact ⟨ret_bool Hr.out, HbE.out⟩
    · rcases h with rfl | rfl
      all_goals cases wk
      all_goals cases wo
      all_goals cases ex
      all_goals
        go_wp2_with fail
        go_ret
        exact ⟨ret_bool Hr.out, HbE.out⟩
    · subst h
      cases ek
      all_goals cases wo
      all_goals cases ex
      all_goals
        go_wp2_with fail
        go_ret
        exact ⟨ret_bool Hr.out, HbE.out⟩
    · subst h
      go_wp2_with fail
      refine (HT.out _).mono ?_
      rintro e w9 ⟨rfl, hb9⟩
      have Hb9 := Lib.hid (then_bel HbE.out hb9)
      have f0 : w9.cell? ⟨w.heap.size, 0, none⟩ = some (.int .i64 5) := ((HbD.out.trans (hb9.mono HbD.out.size)).cell (p := ⟨w.heap.size, 0, none⟩) hlA).trans (cell_in (o := 0) Hbk.out)
      have f1 : w9.cell? ⟨w.heap.size, 1, none⟩ = some (.string t) := ((HbD.out.trans (hb9.mono HbD.out.size)).cell (p := ⟨w.heap.size, 1, none⟩) hlA).trans (cell_in (o := 1) Hbk.out)
      have f2 : w9.cell? ⟨w.heap.size, 2, none⟩ = some (.string k) := ((HbD.out.trans (hb9.mono HbD.out.size)).cell (p := ⟨w.heap.size, 2, none⟩) hlA).trans (cell_in (o := 2) Hbk.out)
      have f3 : w9.cell? ⟨w.heap.size, 3, none⟩ = some (.string o) := ((HbD.out.trans (hb9.mono HbD.out.size)).cell (p := ⟨w.heap.size, 3, none⟩) hlA).trans (cell_in (o := 3) Hbk.out)
      have f4 : w9.cell? ⟨w.heap.size, 4, none⟩ = some (.string x) := ((HbD.out.trans (hb9.mono HbD.out.size)).cell (p := ⟨w.heap.size, 4, none⟩) hlA).trans (cell_in (o := 4) Hbk.out)

      clear hb9
      cases ek
      all_goals cases eo
      all_goals cases bf
      all_goals
        go_wp2_with fail
        go_ret
        exact ⟨ret_bool Hr.out, Hb9.out⟩
    · have q1 : (kd == 1) = false := by simpa using n1
      have q2 : (kd == 2) = false := by simpa using n2
      have q3 : (kd == 3) = false := by simpa using n3
      have q4 : (kd == 4) = false := by simpa using n4
      have q5 : (kd == 5) = false := by simpa using n5
      have q6 : (kd == 6) = false := by simpa using n6
      have Hr2 : Hid (R = false) := Lib.hid (by rw [Hr.out]; simp [n1, n2, n3, n4, n5, n6])
      clear n1 n2 n3 n4 n5 n6
      go_wp2_with fail
      go_ret
      rw [Hr2.out]
      exact ⟨rfl, HbE.out⟩
end Go.Proofs.YthjcifokmcbaoaaGreatDoor.st
/- A law for any program: a call of a Go function as one step of a region that draws its order. No program in sight; no conditions beside those stated. -/
namespace Go.Proofs.YthjcifokmcbaoaaGreatDoor
open Go.RowKit
section
variable {P : Program}
/-- A function that has a Go body is entered. -/
theorem enters {f : FuncId} {fn : Func} (hf : P.funcs[f]? = some fn) (hname : (fn.name == "runtime.NumGoroutine") = false) (hb : fn.body.isSome = true) (args : Array Value) (w : World) : (callFunc f args).run P w = .ok (.enter f args) w := by
  obtain ⟨c, hc⟩ := Option.isSome_iff_exists.1 hb
  exact MuLone.run_callFunc_enter hf hname hc args w
/-- A call, as a step. -/
theorem step_call {ops : Array Oper} {o : Oper} {a : Act} {w : World} {K : Act → World → Prop} {Q : Exit → Act → World → Prop} {E : Prop} (hgd : o.guard = none) (f : FuncId) (xs : Array Operand) (ts : Array TypeId)
    (ho : o.op = .call { callee := .value (.func f), args := xs, argTypes := ts }) (eg : ∀ args w, (callFunc f args).run P w = .ok (.enter f args) w) (args : Array Value) (hargs' : xs.toList.map a.eval = args.toList) (v : Value) (R : World → Prop)
    (hc : Calls P f args w fun e w' => e = .returned v ∧ R w') (hK : ∀ w', R w' → K (a.put o.dst v) w') :
    if Region.wanted o (yielded ops a.tmps) = true then Oper.wp P o a w K Q else E := by
  have hargs : xs.map a.eval = args := by
    apply Array.ext'
    rw [Array.toList_map]
    exact hargs'
  have hw : Region.wanted o (yielded ops a.tmps) = true := by simp [Region.wanted, hgd]
  rw [if_pos hw]
  have hrun : (execOp a.eval o).run P w = .ok (.enter f args) w := by
    simp only [execOp, ho]
    have h1 : a.eval (.func f) = .func (.func f) #[] #[] := rfl
    simp only [resolve, h1, hargs]
    have := eg args w
    simpa [invoke, go_sem] using this
  unfold Oper.wp
  rw [hrun, Oper.upon_enter]
  refine hc.mono fun e w' h => ?_
  obtain ⟨rfl, h⟩ := h
  exact hK w' h
/-- A call that returns or panics, as a step. -/
theorem step_call_or {ops : Array Oper} {o : Oper} {a : Act} {w : World} {K : Act → World → Prop} {Q : Exit → Act → World → Prop} {E : Prop} (hgd : o.guard = none) (f : FuncId) (xs : Array Operand) (ts : Array TypeId)
    (ho : o.op = .call { callee := .value (.func f), args := xs, argTypes := ts }) (eg : ∀ args w, (callFunc f args).run P w = .ok (.enter f args) w) (args : Array Value) (hargs' : xs.toList.map a.eval = args.toList) (e0 : Ending) (chain : List PanicEntry) (he0 : e0 = .panicked chain) (v : Value) (R R2 : World → Prop)
    (hc : Calls P f args w fun e w' => (e = e0 ∧ R w') ∨ (e = .returned v ∧ R2 w')) (hQ : ∀ w', R w' → Q (.panic chain) a w') (hK : ∀ w', R2 w' → K (a.put o.dst v) w') :
    if Region.wanted o (yielded ops a.tmps) = true then Oper.wp P o a w K Q else E := by
  have hargs : xs.map a.eval = args := by
    apply Array.ext'
    rw [Array.toList_map]
    exact hargs'
  have hw : Region.wanted o (yielded ops a.tmps) = true := by simp [Region.wanted, hgd]
  rw [if_pos hw]
  have hrun : (execOp a.eval o).run P w = .ok (.enter f args) w := by
    simp only [execOp, ho]
    have h1 : a.eval (.func f) = .func (.func f) #[] #[] := rfl
    simp only [resolve, h1, hargs]
    have := eg args w
    simpa [invoke, go_sem] using this
  unfold Oper.wp
  rw [hrun, Oper.upon_enter]
  refine hc.mono fun e w' h => ?_
  rcases h with ⟨rfl, h⟩ | ⟨rfl, h⟩
  · subst he0
    exact hQ w' h
  · exact hK w' h
end
end Go.Proofs.YthjcifokmcbaoaaGreatDoor
/- The reference's Less, find and Pairs of chapter 16 return plain functions. Conditions: texts of at most 2147483647 bytes where words are asked. -/
namespace Go.Proofs.YthjcifokmcbaoaaGreatDoor.st
open Go.ChangeShapes Go.WideShapes Go.ChangeAt Go.RowKit gl

theorem refLess_any (x y : Pr) (w : World) : Calls Tryz.prog 125 #[.agg #[.string (B x.table), .string (B x.key), .string (B x.value)], .agg #[.string (B y.table), .string (B y.key), .string (B y.value)]] w fun e w' => e = .returned (.bool (ltP x y)) ∧ Below w.heap.size w w' := by
  have l1 := lt_bool (B x.table) (B y.table)
  have l2 := lt_bool (B x.key) (B y.key)
  simp only at l1 l2
  have hb : Below w.heap.size w ((w.alloc (.cells #[.string (B x.table), .string (B x.key), .string (B x.value)] 57)).alloc (.cells #[.string (B y.table), .string (B y.key), .string (B y.value)] 57)) := ((Below.refl _ _).alloc (Nat.le_refl _) _).alloc (by simp) _
  have Hb := Lib.hid hb
  have Hr : Hid (ltP x y = (ltL x.table y.table || (decide (x.table = y.table) && ltL x.key y.key))) := Lib.hid rfl
  have he : ((B x.table).toList == (B y.table).toList) = decide (x.table = y.table) := by
    by_cases h : x.table = y.table
    · rw [decide_eq_true h]; exact seq_true (by rw [h])
    · rw [decide_eq_false h]; exact seq_false (fun e => h (B_inj e))
  generalize ltP x y = R at *
  generalize decide (x.table = y.table) = de at *
  generalize ltL x.table y.table = d1 at *
  generalize ltL x.key y.key = d2 at *
  generalize B x.table = x1 at *
  generalize B y.table = y1 at *
  generalize B x.key = x2 at *
  generalize B y.key = y2 at *
  generalize B x.value = x3 at *
  generalize B y.value = y3 at *
  clear hb
  cases d1
  · cases de
    · go_enter Tryz.func125, Tryz.ntmps125
      go_wp2_with fail
      go_ret
      exact ⟨ret_bool Hr.out, Hb.out⟩
    · go_enter Tryz.func125, Tryz.ntmps125
      go_wp2_with fail
      go_ret
      exact ⟨ret_bool (by rw [Hr.out]; simp), Hb.out⟩
  · go_enter Tryz.func125, Tryz.ntmps125
    go_wp2_with fail
    go_ret
    exact ⟨ret_bool (by rw [Hr.out]; rfl), Hb.out⟩
def idxI (r : Option Nat) : Int := match r with | some i => (i : Int) | none => -1
theorem idxI_none : idxI none = -1 := rfl
theorem idxI_some (i : Nat) : idxI (some i) = (i : Int) := rfl
theorem idxI_neg (r : Option Nat) : (idxI r < 0 ↔ r.isSome = false) := by cases r <;> simp [idxI] <;> omega
def noAt (l : List Pr) (t k : List UInt8) (n : Nat) : Prop := ∀ (j : Nat) (q : Pr), j < n → l[j]? = some q → ¬ (q.table = t ∧ q.key = k)
theorem noAt_succ {l : List Pr} {t k : List UInt8} {n : Nat} {x : Pr} (h : noAt l t k n) (hx : l[n]? = some x) (hn : ¬ (x.table = t ∧ x.key = k)) : noAt l t k (n + 1) := by
  intro j q hj hq
  rcases Nat.lt_or_ge j n with h1 | h1
  · exact h j q h1 hq
  · obtain rfl : j = n := by omega
    rw [hx] at hq
    obtain rfl := Option.some.inj hq
    exact hn
set_option maxHeartbeats 2000000 in
set_option maxRecDepth 100000 in
theorem refFind_any (p : Option Addr) (m c : Nat) (l : List Pr) (t k : ByteArray) (hm : m ≤ 4294967295) (w : World) (h : Prs w (.slice p m c) l) :
    Calls Tryz.prog 126 #[.slice p m c, .string t, .string k] w fun e w' => e = .returned (.int .i64 (idxI (idxL l t.data.toList k.data.toList))) ∧ w = w' := by
  obtain ⟨hlen, hmc, hptr⟩ := h.ptr
  have HL := Lib.hid h
  have Hlen := Lib.hid hlen
  have HP := Lib.hid hptr
  clear h hlen hptr
  go_enter Tryz.func126, Tryz.ntmps126
  go_wp2_with fail
  go_loop [7] (fun i => ∃ k' : Nat, k' ≤ m ∧ i = .int .i64 k' ∧ Hid (noAt l t.data.toList k.data.toList k')) (fun i => m - (intOf i).toNat)
  case atStart => exact ⟨0, by omega, rfl, Lib.hid fun j x h => by omega⟩
  case round =>
    obtain ⟨n, hn, rfl, Hno⟩ := hrel
    by_cases hlt : n < m
    · obtain ⟨b, o, rfl, hbl⟩ := HP.out (by omega)
      obtain ⟨x, hx⟩ : ∃ x, l[n]? = some x := ⟨_, List.getElem?_eq_getElem (by rw [Hlen.out]; exact hlt)⟩
      obtain ⟨c0, c1, _⟩ := prs_cells HL.out hx
      have Hx := Lib.hid hx
      clear hx
      by_cases ht : x.table = t.data.toList
      · have q : ((B x.table).toList == t.toList) = true := seq_true (by rw [ht, B_of])
        by_cases hk : x.key = k.data.toList
        · have q2 : ((B x.key).toList == k.toList) = true := seq_true (by rw [hk, B_of])
          have Hr : Hid (idxL l t.data.toList k.data.toList = some n) := Lib.hid (idx_is_some Hx.out ht hk fun j q hj hq => Hno.out j q hj hq)
          clear ht hk
          generalize B x.table = x1 at *
          generalize B x.key = x2 at *
          go_wp2_with fail
          go_ret
          rw [Hr.out]
          exact ⟨rfl, rfl⟩
        · have q2 : ((B x.key).toList == k.toList) = false := seq_false (fun e => hk (by rw [← e, B_list]))
          have Hn := Lib.hid (noAt_succ Hno.out Hx.out (fun e => hk e.2))
          clear ht hk
          generalize B x.table = x1 at *
          generalize B x.key = x2 at *
          go_wp2_with fail
          go_round
          case rel => exact ⟨n + 1, by omega, by go_num, Hn⟩
          case measure => simp [intOf]; omega
      · have q : ((B x.table).toList == t.toList) = false := seq_false (fun e => ht (by rw [← e, B_list]))
        have Hn := Lib.hid (noAt_succ Hno.out Hx.out (fun e => ht e.1))
        clear ht
        generalize B x.table = x1 at *
        generalize B x.key = x2 at *
        go_wp2_with fail
        go_round
        case rel => exact ⟨n + 1, by omega, by go_num, Hn⟩
        case measure => simp [intOf]; omega
    · obtain rfl : n = m := by omega
      have Hr : Hid (idxL l t.data.toList k.data.toList = none) := Lib.hid (idx_is_none fun j q hq => Hno.out j q (by have := lt_of_at hq; rw [Hlen.out] at this; exact this) hq)
      go_wp2_with fail
      go_ret
      rw [Hr.out]
      exact ⟨rfl, rfl⟩
end Go.Proofs.YthjcifokmcbaoaaGreatDoor.st
/- The reference's Pairs and package step's may return whether pairs may be. Conditions: texts of at most 2147483647 bytes; for step.may the listed variables hold what the program's text lays. -/
namespace Go.Proofs.YthjcifokmcbaoaaGreatDoor.st
open Go.ChangeShapes Go.WideShapes Go.ChangeAt Go.RowKit gl

/-- Texts as short as words may be asked. -/
def PrSz (x : Pr) : Prop := x.table.length ≤ 2147483647 ∧ x.key.length ≤ 2147483647 ∧ x.value.length ≤ 2147483647
theorem egL (args : Array Value) (w : World) : (callFunc 125 args).run Tryz.prog w = .ok (.enter 125 args) w := enters Tryz.func125 (by kernel_rfl) (by kernel_rfl) args w
theorem wordP_no1 {p : Pr} (h : wordL p.table = false) : wordP p = false := by unfold wordP; rw [h]; rfl
theorem wordP_no2 {p : Pr} (h : wordL p.key = false) : wordP p = false := by unfold wordP; rw [h]; simp
theorem wordP_no3 {p : Pr} (h : ¬ p.value.length ≤ 200) : wordP p = false := by unfold wordP; rw [decide_eq_false h]; simp
theorem r7_drew {w0 wp : World} {b o1 o2 : Nat} {x0 x1 x2 y0 y1 y2 : Value} (h : wp.cell? ⟨b, o1, none⟩ = some x0 ∧ wp.cell? ⟨b, o1 + 1, none⟩ = some x1 ∧ wp.cell? ⟨b, o1 + 2, none⟩ = some x2 ∧ wp.cell? ⟨b, o2, none⟩ = some y0 ∧ wp.cell? ⟨b, o2 + 1, none⟩ = some y1 ∧ wp.cell? ⟨b, o2 + 2, none⟩ = some y2 ∧ Hid (Below w0.heap.size w0 wp)) :
    wp.drew.cell? ⟨b, o1, none⟩ = some x0 ∧ wp.drew.cell? ⟨b, o1 + 1, none⟩ = some x1 ∧ wp.drew.cell? ⟨b, o1 + 2, none⟩ = some x2 ∧ wp.drew.cell? ⟨b, o2, none⟩ = some y0 ∧ wp.drew.cell? ⟨b, o2 + 1, none⟩ = some y1 ∧ wp.drew.cell? ⟨b, o2 + 2, none⟩ = some y2 ∧ Hid (Below w0.heap.size w0 wp.drew) := ⟨h.1, h.2.1, h.2.2.1, h.2.2.2.1, h.2.2.2.2.1, h.2.2.2.2.2.1, Lib.hid h.2.2.2.2.2.2.out.drew⟩
theorem r7_call {w0 wp w' : World} {b o1 o2 : Nat} {x0 x1 x2 y0 y1 y2 : Value} (h : wp.cell? ⟨b, o1, none⟩ = some x0 ∧ wp.cell? ⟨b, o1 + 1, none⟩ = some x1 ∧ wp.cell? ⟨b, o1 + 2, none⟩ = some x2 ∧ wp.cell? ⟨b, o2, none⟩ = some y0 ∧ wp.cell? ⟨b, o2 + 1, none⟩ = some y1 ∧ wp.cell? ⟨b, o2 + 2, none⟩ = some y2 ∧ Hid (Below w0.heap.size w0 wp)) (hb : Below wp.heap.size wp w') :
    w'.cell? ⟨b, o1, none⟩ = some x0 ∧ w'.cell? ⟨b, o1 + 1, none⟩ = some x1 ∧ w'.cell? ⟨b, o1 + 2, none⟩ = some x2 ∧ w'.cell? ⟨b, o2, none⟩ = some y0 ∧ w'.cell? ⟨b, o2 + 1, none⟩ = some y1 ∧ w'.cell? ⟨b, o2 + 2, none⟩ = some y2 ∧ Hid (Below w0.heap.size w0 w') :=
  have hlt := World.block_lt_of_cell? _ _ h.1
  ⟨(hb.cell (p := ⟨b, o1, none⟩) hlt).trans h.1, (hb.cell (p := ⟨b, o1 + 1, none⟩) hlt).trans h.2.1, (hb.cell (p := ⟨b, o1 + 2, none⟩) hlt).trans h.2.2.1, (hb.cell (p := ⟨b, o2, none⟩) hlt).trans h.2.2.2.1, (hb.cell (p := ⟨b, o2 + 1, none⟩) hlt).trans h.2.2.2.2.1, (hb.cell (p := ⟨b, o2 + 2, none⟩) hlt).trans h.2.2.2.2.2.1, Lib.hid (h.2.2.2.2.2.2.out.trans (hb.mono h.2.2.2.2.2.2.out.size))⟩
set_option maxHeartbeats 1600000 in
set_option maxRecDepth 100000 in
theorem refPairs_any (p : Option Addr) (m c : Nat) (l : List Pr) (hm : m ≤ 4294967295) (hsz : ∀ x ∈ l, PrSz x) (w : World) (h : Prs w (.slice p m c) l) :
    Calls Tryz.prog 76 #[.slice p m c] w fun e w' => e = .returned (.bool (mayL l)) ∧ Below w.heap.size w w' := by
  obtain ⟨hlen, hmc, hptr⟩ := h.ptr
  have HL := Lib.hid h
  have Hlen := Lib.hid hlen
  have HP := Lib.hid hptr
  have Hsz := Lib.hid hsz
  clear h hlen hptr hsz
  by_cases hbig : 500 < m
  · have hbig' : (500 : Int) < (m : Int) := by omega
    have Hr : Hid (mayL l = false) := Lib.hid (by unfold mayL; rw [decide_eq_false (by rw [Hlen.out]; omega)]; rfl)
    clear hbig
    go_enter Tryz.func76, Tryz.ntmps76
    go_wp2_with fail
    go_ret
    rw [Hr.out]
    exact ⟨rfl, Below.refl _ _⟩
  · have hbig' : ¬ (500 : Int) < (m : Int) := by omega
    go_enter Tryz.func76, Tryz.ntmps76
    go_wp2_with fail
    go_loopw [3] (fun i wr => ∃ n : Nat, n ≤ m ∧ i = .int .i64 n ∧ Hid (okTo l n) ∧ Hid (Below w.heap.size w wr)) (fun i _ => m - (intOf i).toNat)
    case atStart => exact ⟨0, by omega, rfl, Lib.hid fun j x h => by omega, Lib.hid (Below.refl _ _)⟩
    case round =>
      obtain ⟨n, hn, rfl, Hok, Hb⟩ := hrel
      by_cases hlt : n < m
      · obtain ⟨b, o, rfl, hbl⟩ := HP.out (by omega)
        obtain ⟨x, hx⟩ : ∃ x, l[n]? = some x := ⟨_, List.getElem?_eq_getElem (by rw [Hlen.out]; exact hlt)⟩
        have HLr := Lib.hid (HL.out.later Hb.out)
        obtain ⟨c0, c1, c2⟩ := prs_cells HLr.out hx
        obtain ⟨z0, z1, z2⟩ := Hsz.out x (List.mem_of_getElem? hx)
        have HT := Lib.hid fun W => refIsWord_any (B x.table) (by rw [B_size]; exact z0) W
        have HK := Lib.hid fun W => refIsWord_any (B x.key) (by rw [B_size]; exact z1) W
        simp only at HT HK
        have Hx := Lib.hid hx
        have Hvz : Hid ((B x.value).size = x.value.length) := Lib.hid (B_size _)
        clear hx z0 z1 z2
        cases hwt : wordL x.table with
        | false =>
          have Hr : Hid (mayL l = false) := Lib.hid (may_bad Hx.out (.inl (wordP_no1 hwt)))
          rw [hwt] at HT
          clear hwt
          generalize B x.table = x1 at *
          generalize B x.key = x2 at *
          generalize B x.value = x3 at *
          go_wp2_with fail
          refine (HT.out _).mono ?_
          rintro e w1 ⟨rfl, rfl⟩
          go_wp2_with fail
          refine (HK.out _).mono ?_
          rintro e w1 ⟨rfl, rfl⟩
          go_wp2_with fail
          go_quiet (fail)
          go_wp2_with fail
          go_ret
          rw [Hr.out]
          exact ⟨rfl, Hb.out.trans ((drewN_bel _ _).mono Hb.out.size)⟩
        | true =>
          cases hwk : wordL x.key with
          | false =>
            have Hr : Hid (mayL l = false) := Lib.hid (may_bad Hx.out (.inl (wordP_no2 hwk)))
            rw [hwt] at HT
            rw [hwk] at HK
            clear hwt hwk
            generalize B x.table = x1 at *
            generalize B x.key = x2 at *
            generalize B x.value = x3 at *
            go_wp2_with fail
            refine (HT.out _).mono ?_
            rintro e w1 ⟨rfl, rfl⟩
            go_wp2_with fail
            refine (HK.out _).mono ?_
            rintro e w1 ⟨rfl, rfl⟩
            go_wp2_with fail
            go_quiet (fail)
            go_wp2_with fail
            go_ret
            rw [Hr.out]
            exact ⟨rfl, Hb.out.trans ((drewN_bel _ _).mono Hb.out.size)⟩
          | true =>
            by_cases hv : x.value.length ≤ 200
            · have hw : wordP x = true := wordP_of hwt hwk hv
              rw [hwt] at HT
              rw [hwk] at HK
              have hv' : decide ((200 : Int) < ((B x.value).size : Int)) = false := by rw [Hvz.out, decide_eq_false_iff_not]; omega
              have hv'' : decide (200 < (B x.value).size) = false := by rw [Hvz.out, decide_eq_false_iff_not]; omega
              rcases Nat.eq_zero_or_pos n with h0 | h0
              · subst h0
                have Hn := Lib.hid (okTo_succ Hok.out Hx.out hw (fun q hq => by omega))
                rw [Nat.zero_mul, Nat.add_zero] at c0 c1 c2
                have h0i : decide ((0 : Int) < 0) = false := by decide
                clear hwt hwk hv hw
                generalize B x.table = x1 at *
                generalize B x.key = x2 at *
                generalize B x.value = x3 at *
                have hm0 : (0 : Int) < (m : Int) := by omega
                rw [show (((0 : Nat) : Nat) : Int) = 0 from rfl]
                go_wp2_with fail
                refine (HT.out _).mono ?_
                rintro e w1 ⟨rfl, rfl⟩
                go_wp2_with fail
                refine (HK.out _).mono ?_
                rintro e w1 ⟨rfl, rfl⟩
                go_wp2_with fail
                go_quiet (fail)
                go_wp2_with fail
                go_roundw
                case rel => exact ⟨0 + 1, by omega, by go_num, Hn, Lib.hid (Hb.out.trans ((drewN_bel _ _).mono Hb.out.size))⟩
                case measure => simp [intOf]; omega
              · obtain ⟨y, hy⟩ : ∃ y, l[n - 1]? = some y := ⟨_, List.getElem?_eq_getElem (by rw [Hlen.out]; omega)⟩
                obtain ⟨d0, d1, d2⟩ := prs_cells HLr.out hy
                have HLs := Lib.hid fun W => refLess_any y x W
                have h0i : (0 : Int) < (n : Int) := by omega
                have h0d : decide ((0 : Int) < (n : Int)) = true := by simp; omega
                have h0e : decide (0 < n) = true := by simp; omega
                have hn1 : IntKind.i64.wrap ((n : Int) - 1) = (n : Int) - 1 := IntWalk.i64_in _ (by omega)
                have hn2 : 0 ≤ (n : Int) - 1 := by omega
                have hn3 : (n : Int) - 1 < (m : Int) := by omega
                have hn4 : ((n : Int) - 1).toNat = n - 1 := by omega
                have hn5 : (0 : Int) ≤ (n : Int) := by omega
                have hn6 : (n : Int) < (m : Int) := by omega
                have hn7 : (1 : Int) ≤ (n : Int) := by omega
                have hn8 : (n : Int) < (m : Int) + 1 := by omega
                cases hlt2 : ltP y x
                · have Hr : Hid (mayL l = false) := Lib.hid (may_bad Hx.out (.inr ⟨y, h0, hy, hlt2⟩))
                  rw [hlt2] at HLs
                  clear hwt hwk hv hw hlt2 hy
                  generalize B x.table = x1 at *
                  generalize B x.key = x2 at *
                  generalize B x.value = x3 at *
                  generalize B y.table = y1 at *
                  generalize B y.key = y2 at *
                  generalize B y.value = y3 at *
                  go_wp2_with fail
                  refine (HT.out _).mono ?_
                  rintro e w1 ⟨rfl, rfl⟩
                  go_wp2_with fail
                  refine (HK.out _).mono ?_
                  rintro e w1 ⟨rfl, rfl⟩
                  go_wp2_with fail
                  have hSt : wr.cell? ⟨b, o + (n - 1) * 3, none⟩ = some (.string y1) ∧ wr.cell? ⟨b, o + (n - 1) * 3 + 1, none⟩ = some (.string y2) ∧ wr.cell? ⟨b, o + (n - 1) * 3 + 2, none⟩ = some (.string y3) ∧ wr.cell? ⟨b, o + n * 3, none⟩ = some (.string x1) ∧ wr.cell? ⟨b, o + n * 3 + 1, none⟩ = some (.string x2) ∧ wr.cell? ⟨b, o + n * 3 + 2, none⟩ = some (.string x3) ∧ Hid (Below wr.heap.size wr wr) := ⟨d0, d1, d2, c0, c1, c2, Lib.hid (Below.refl _ _)⟩
                  go_region_held3 (fun w' => w'.cell? ⟨b, o + (n - 1) * 3, none⟩ = some (.string y1) ∧ w'.cell? ⟨b, o + (n - 1) * 3 + 1, none⟩ = some (.string y2) ∧ w'.cell? ⟨b, o + (n - 1) * 3 + 2, none⟩ = some (.string y3) ∧ w'.cell? ⟨b, o + n * 3, none⟩ = some (.string x1) ∧ w'.cell? ⟨b, o + n * 3 + 1, none⟩ = some (.string x2) ∧ w'.cell? ⟨b, o + n * 3 + 2, none⟩ = some (.string x3) ∧ Hid (Below wr.heap.size wr w'))
                    (first | assumption | (with_reducible exact r7_drew (by assumption)))
                    ((go_at_call 125; (with_reducible refine Calls.mono (HLs.out _) ?_); rintro e w' ⟨rfl, hb⟩; have hS' := r7_call (by assumption) hb; clear hb))
                  all_goals
                    rename_i hH
                    have hbH := Lib.hid hH.2.2.2.2.2.2.out
                    clear hH hSt d0 d1 d2 c0 c1 c2 hn1 hn4
                    go_wp2_with fail
                    go_ret
                    rw [Hr.out]
                    exact ⟨rfl, Hb.out.trans (hbH.out.mono Hb.out.size)⟩
                · have Hn := Lib.hid (okTo_succ Hok.out Hx.out hw (fun q _ hq => by rw [hy] at hq; obtain rfl := Option.some.inj hq; exact hlt2))
                  rw [hlt2] at HLs
                  clear hwt hwk hv hw hlt2 hy
                  generalize B x.table = x1 at *
                  generalize B x.key = x2 at *
                  generalize B x.value = x3 at *
                  generalize B y.table = y1 at *
                  generalize B y.key = y2 at *
                  generalize B y.value = y3 at *
                  go_wp2_with fail
                  refine (HT.out _).mono ?_
                  rintro e w1 ⟨rfl, rfl⟩
                  go_wp2_with fail
                  refine (HK.out _).mono ?_
                  rintro e w1 ⟨rfl, rfl⟩
                  go_wp2_with fail
                  have hSt : wr.cell? ⟨b, o + (n - 1) * 3, none⟩ = some (.string y1) ∧ wr.cell? ⟨b, o + (n - 1) * 3 + 1, none⟩ = some (.string y2) ∧ wr.cell? ⟨b, o + (n - 1) * 3 + 2, none⟩ = some (.string y3) ∧ wr.cell? ⟨b, o + n * 3, none⟩ = some (.string x1) ∧ wr.cell? ⟨b, o + n * 3 + 1, none⟩ = some (.string x2) ∧ wr.cell? ⟨b, o + n * 3 + 2, none⟩ = some (.string x3) ∧ Hid (Below wr.heap.size wr wr) := ⟨d0, d1, d2, c0, c1, c2, Lib.hid (Below.refl _ _)⟩
                  go_region_held3 (fun w' => w'.cell? ⟨b, o + (n - 1) * 3, none⟩ = some (.string y1) ∧ w'.cell? ⟨b, o + (n - 1) * 3 + 1, none⟩ = some (.string y2) ∧ w'.cell? ⟨b, o + (n - 1) * 3 + 2, none⟩ = some (.string y3) ∧ w'.cell? ⟨b, o + n * 3, none⟩ = some (.string x1) ∧ w'.cell? ⟨b, o + n * 3 + 1, none⟩ = some (.string x2) ∧ w'.cell? ⟨b, o + n * 3 + 2, none⟩ = some (.string x3) ∧ Hid (Below wr.heap.size wr w'))
                    (first | assumption | (with_reducible exact r7_drew (by assumption)))
                    ((go_at_call 125; (with_reducible refine Calls.mono (HLs.out _) ?_); rintro e w' ⟨rfl, hb⟩; have hS' := r7_call (by assumption) hb; clear hb))
                  all_goals
                    rename_i hH
                    have hbH := Lib.hid hH.2.2.2.2.2.2.out
                    clear hH hSt d0 d1 d2 c0 c1 c2 hn1 hn4
                    go_wp2_with fail
                    go_roundw
                    case rel => exact ⟨n + 1, by omega, by go_num, Hn, Lib.hid (Hb.out.trans (hbH.out.mono Hb.out.size))⟩
                    case measure => simp [intOf]; omega
            · have Hr : Hid (mayL l = false) := Lib.hid (may_bad Hx.out (.inl (wordP_no3 hv)))
              rw [hwt] at HT
              rw [hwk] at HK
              have hv1 : (200 : Int) < ((B x.value).size : Int) := by rw [Hvz.out]; omega
              have hv' : decide ((200 : Int) < ((B x.value).size : Int)) = true := by rw [decide_eq_true_iff]; exact hv1
              have hv'' : decide (200 < (B x.value).size) = true := by rw [decide_eq_true_iff]; omega
              clear hwt hwk hv
              generalize B x.table = x1 at *
              generalize B x.key = x2 at *
              generalize B x.value = x3 at *
              go_wp2_with fail
              refine (HT.out _).mono ?_
              rintro e w1 ⟨rfl, rfl⟩
              go_wp2_with fail
              refine (HK.out _).mono ?_
              rintro e w1 ⟨rfl, rfl⟩
              go_wp2_with fail
              go_quiet (fail)
              go_wp2_with fail
              go_ret
              rw [Hr.out]
              exact ⟨rfl, Hb.out.trans ((drewN_bel _ _).mono Hb.out.size)⟩
      · obtain rfl : n = m := by omega
        have Hr : Hid (mayL l = true) := Lib.hid (by rw [may_end (by rw [Hlen.out]; exact Hok.out), decide_eq_true_iff, Hlen.out]; omega)
        go_wp2_with fail
        go_ret
        rw [Hr.out]
        exact ⟨rfl, Hb.out⟩
end Go.Proofs.YthjcifokmcbaoaaGreatDoor.st
