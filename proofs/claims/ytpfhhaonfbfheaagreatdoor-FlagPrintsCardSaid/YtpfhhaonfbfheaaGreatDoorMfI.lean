/- Laws and contracts on which the statement rests, part I: each text says what it proves, and its conditions. -/
import Derived.Test.YtpfhhaonfbfheaaGreatDoorMfG
import Derived.Laws.CopyRow
import Derived.Laws.CopyOwn
import Derived.Laws.IdiomCopy
import Derived.Laws.MakeOwn
import Derived.Test.YtpfhhaonfbfheaaGreatDoorChecked
import Derived.WalkKit
import Derived.Laws.StructEq
import Derived.ArgAppend
import Derived.Laws.IdiomStrings
import Derived.Test.YtpfhhaonfbfheaaGreatDoorMfE
import Derived.Deep.QuietTactic
import Derived.BigQuiet
import Derived.Test.YtpfhhaonfbfheaaGreatDoorMfH
/- The document's first, begins and Parse of package env. Conditions: the names and the pairs lie in memory as their lists; texts of at most 2147483647 bytes, at most 4294967295 names and 2147483647 pairs. -/
namespace Go.Proofs.YtpfhhaonfbfheaaGreatDoor.en
open Go.ChangeShapes Go.WideShapes Go.ChangeAt Go.RowKit gl va ls ky

theorem bef_at {c : UInt8} : ∀ {l : List UInt8} {k : Nat}, (∀ j, j < k → l[j]? ≠ some c) → l[k]? = some c → bef c l = l.take k
  | [], k, _, h => by simp at h
  | d :: r, 0, _, h => by
    simp at h
    simp [bef, h]
  | d :: r, k + 1, hn, h => by
    have hd : d ≠ c := fun e => hn 0 (by omega) (by simp [e])
    have ih := bef_at (c := c) (l := r) (k := k) (fun j hj => by have := hn (j + 1) (by omega); simpa using this) (by simpa using h)
    unfold bef at ih ⊢
    rw [List.takeWhile_cons_of_pos (by simp [hd]), ih]
    rfl
theorem bef_len (c : UInt8) (l : List UInt8) : (bef c l).length ≤ l.length := (List.takeWhile_prefix _).length_le
theorem bef_aft {c : UInt8} : ∀ {l : List UInt8}, c ∈ l → l = bef c l ++ c :: aft c l
  | [], h => by cases h
  | d :: r, h => by
    by_cases hd : d = c
    · subst hd
      simp [bef, aft]
    · have hm : c ∈ r := by simpa [Ne.symm hd] using h
      have ih := bef_aft hm
      have hb : bef c (d :: r) = d :: bef c r := by unfold bef; simp [hd]
      have ha : aft c (d :: r) = aft c r := by unfold aft; simp [hd]
      rw [hb, ha, List.cons_append, ← ih]
theorem aft_drop {c : UInt8} {l : List UInt8} (h : c ∈ l) : l.drop ((bef c l).length + 1) = aft c l ∧ (bef c l).length + 1 ≤ l.length := by
  have e := bef_aft h
  have el := congrArg List.length e
  simp at el
  refine ⟨?_, by omega⟩
  have h2 : l = (bef c l ++ [c]) ++ aft c l := by rw [List.append_assoc]; exact e
  have h3 : (bef c l).length + 1 = (bef c l ++ [c]).length := by simp
  rw [h3]
  calc l.drop (bef c l ++ [c]).length = ((bef c l ++ [c]) ++ aft c l).drop (bef c l ++ [c]).length := by rw [← h2]
    _ = aft c l := List.drop_left
theorem size_list (s : ByteArray) : s.data.toList.length = s.size := Array.length_toList
set_option maxHeartbeats 1000000 in
set_option maxRecDepth 100000 in
theorem first_any (s : ByteArray) (c : UInt8) (hs : s.size ≤ 2147483647) (w : World) :
    Calls Tryz.prog 59 #[.string s, .int .u8 (c.toNat : Int)] w fun e w' => e = .returned (.tuple #[.string (B (bef c s.data.toList)), .bool (decide (c ∈ s.data.toList))]) ∧ w = w' := by
  obtain ⟨rt, hrt⟩ : ∃ rt, rt = B (bef c s.data.toList) := ⟨_, rfl⟩
  obtain ⟨rb, hrb⟩ : ∃ rb, rb = decide (c ∈ s.data.toList) := ⟨_, rfl⟩
  rw [← hrt, ← hrb]
  have Hrt := Lib.hid hrt
  have Hrb := Lib.hid hrb
  clear hrt hrb
  go_enter Tryz.func59, Tryz.ntmps59
  go_wp2_with fail
  go_loop [6] (fun i => ∃ k : Nat, k ≤ s.size ∧ i = .int .i64 k ∧ Hid (∀ j, j < k → s.data.toList[j]? ≠ some c)) (fun i => s.size - (intOf i).toNat)
  case atStart => exact ⟨0, by omega, rfl, Lib.hid fun j hj => by omega⟩
  case round =>
    obtain ⟨k, hk, rfl, HN⟩ := hrel
    by_cases hlt : k < s.size
    · obtain ⟨b, hbl, hbi, hb0, hb1⟩ := byteAt s k hlt
      by_cases hbc : b = c
      · have Hr : Hid (rt = s.extract 0 k) := Lib.hid (by
          rw [Hrt.out]
          rw [bef_at HN.out (by rw [hbl, hbc])]
          apply ByteArray.ext
          apply Array.toList_inj.1
          rw [extract_toList]
          simp)
        have Hm : Hid (rb = true) := Lib.hid (by
          rw [Hrb.out]
          rw [decide_eq_true_eq, ← hbc]
          exact List.mem_of_getElem? hbl)
        have he : ((b.toNat : Int) == (c.toNat : Int)) = true := by rw [hbc]; simp
        have he2 : (b.toNat : Int) = (c.toNat : Int) := by rw [hbc]
        clear hbl hbc
        go_wp2_with fail
        go_ret2
        exact ⟨by rw [Hr.out, Hm.out]; rfl, rfl⟩
      · have HN2 : Hid (∀ j, j < k + 1 → s.data.toList[j]? ≠ some c) := Lib.hid fun j hj => by
          rcases Nat.lt_or_ge j k with h | h
          · exact HN.out j h
          · obtain rfl : j = k := by omega
            rw [hbl]
            exact fun e => hbc (Option.some.inj e)
        have he : ((b.toNat : Int) == (c.toNat : Int)) = false := by
          rw [beq_eq_false_iff_ne]
          intro e
          exact hbc (UInt8.toNat_inj.1 (by omega))
        have he2 : ¬ (b.toNat : Int) = (c.toNat : Int) := by simpa using he
        clear hbl hbc
        go_wp2_with fail
        go_round
        case rel => exact ⟨k + 1, by omega, by go_num, HN2⟩
        case measure => simp [intOf]; omega
    · obtain rfl : k = s.size := by omega
      have hno : c ∉ s.data.toList := fun hm => by
        obtain ⟨j, hj⟩ := List.mem_iff_getElem?.1 hm
        have := ls.lt_get hj
        rw [size_list] at this
        exact HN.out j this hj
      have Hr : Hid (rt = s) := Lib.hid (by rw [Hrt.out, bef_all hno, B_of])
      have Hm : Hid (rb = false) := Lib.hid (by rw [Hrb.out, decide_eq_false_iff_not]; exact hno)
      clear hno
      go_wp2_with fail
      go_ret2
      exact ⟨by rw [Hr.out, Hm.out]; rfl, rfl⟩
set_option maxRecDepth 100000 in
theorem refBegins_any (s t : ByteArray) (_hs : s.size ≤ 2147483647) (ht : t.size ≤ 2147483647) (w : World) :
    Calls Tryz.prog 60 #[.string s, .string t] w fun e w' => e = .returned (.bool (t.data.toList.isPrefixOf s.data.toList)) ∧ w = w' := by
  by_cases hl : t.size ≤ s.size
  · have Hp : Hid (t.data.toList.isPrefixOf s.data.toList = ((s.extract 0 t.size).toList == t.toList)) := Lib.hid (by
      rw [ByteArray.toList_eq, ByteArray.toList_eq, extract_toList, ← size_list t]
      rw [Nat.sub_zero, List.drop_zero]
      rw [Bool.eq_iff_iff, List.isPrefixOf_iff_prefix, beq_iff_eq]
      constructor
      · intro h
        obtain ⟨r, hr⟩ := h
        rw [← hr]
        simp
      · intro h
        rw [← h]
        exact List.take_prefix _ _)
    rw [Hp.out]
    have hl1 : (t.size : Int) ≤ (s.size : Int) := by omega
    have hl0 : (0 : Int) ≤ (t.size : Int) := by omega
    clear hl
    generalize hz : ((s.extract 0 t.size).toList == t.toList) = z
    go_enter Tryz.func60, Tryz.ntmps60
    go_wp2_with fail
    go_ret
    exact ⟨rfl, rfl⟩
  · have Hp : Hid (t.data.toList.isPrefixOf s.data.toList = false) := Lib.hid (by
      rw [Bool.eq_false_iff]
      intro h
      have := (List.isPrefixOf_iff_prefix.1 h).length_le
      rw [size_list, size_list] at this
      omega)
    rw [Hp.out]
    have hl1 : (s.size : Int) < (t.size : Int) := by omega
    clear hl
    go_enter Tryz.func60, Tryz.ntmps60
    go_wp2_with fail
    go_ret
    exact ⟨rfl, rfl⟩
end Go.Proofs.YtpfhhaonfbfheaaGreatDoor.en
/- The document's Parse of package env. Conditions: the names and the pairs lie in memory as their lists; texts of at most 2147483647 bytes, at most 2147483647 names and pairs. -/
namespace Go.Proofs.YtpfhhaonfbfheaaGreatDoor.en
open Go.ChangeShapes Go.WideShapes Go.ChangeAt Go.RowKit gl va ls ky

theorem take_any {l : List (List UInt8)} {p : List UInt8 → Bool} {k : Nat} {x : List UInt8} (h : l[k]? = some x) : (l.take (k + 1)).any p = ((l.take k).any p || p x) := by
  rw [List.take_add_one, h]
  simp
theorem pick_take {l : List (List UInt8)} {nm : List UInt8} {k : Nat} {x : List UInt8} (h : l[k]? = some x) (hn : pickL (l.take k) nm = none) : pickL (l.take (k + 1)) nm = if greatL x = nm then some x else none := by
  rw [List.take_add_one, h]
  show pickL (l.take k ++ [x]) nm = _
  rw [pick_snoc, hn]
  rfl
theorem pick_found {l : List (List UInt8)} {nm : List UInt8} {k : Nat} {x : List UInt8} (h : l[k]? = some x) (hn : pickL (l.take k) nm = none) (hg : greatL x = nm) : pickL l nm = some x := by
  have hl := drop_at h
  have e : l = l.take k ++ l.drop k := (List.take_append_drop k l).symm
  unfold pickL at hn ⊢
  rw [e, List.find?_append, hn, hl]
  simp [hg]
set_option maxHeartbeats 4000000 in
set_option maxRecDepth 100000 in
theorem refParse_any (names pairs : List (List UInt8)) (pn p : Option Addr) (nn cn np c : Nat) (hnn : names.length = nn) (hnp : pairs.length = np) (hn31 : nn ≤ 2147483647) (hp31 : np ≤ 2147483647) (hnl : ∀ x ∈ names, x.length ≤ 2147483646) (hpl : ∀ x ∈ pairs, x.length ≤ 2147483647) (w : World) (hN : Sts w (.slice pn nn cn) names) (hP : Sts w (.slice p np c) pairs) :
    Calls Tryz.prog 29 #[.slice pn nn cn, .slice p np c] w fun e w' => (∃ v, e = .returned (.tuple #[v, .int .i64 (parseL names 0 pairs []).2.1, .int .i64 ((parseL names 0 pairs []).2.2 : Nat)]) ∧ NewGvs w.heap.size w' v (parseL names 0 pairs []).1) ∧ Below w.heap.size w w' := by
  obtain ⟨i1, si, sz0, sz1, sz2⟩ := info_parts infoGv
  have HP := Lib.hid hP
  have HN := Lib.hid hN
  have HptrP := Lib.hid hP.ptr.2.2
  have HptrN := Lib.hid hN.ptr.2.2
  have Hpl := Lib.hid hpl
  have Hnl := Lib.hid hnl
  have Hnp := Lib.hid hnp
  have Hnn := Lib.hid hnn
  have HO0 : Hid (w.ownsRow w.heap.size 35 3 (.slice none 0 0) 0 (rw.flat gvC [])) := Lib.hid ⟨rfl, .inl ⟨rfl, rfl⟩⟩
  clear hP hN hpl hnl hnp hnn
  go_enter Tryz.func29, Tryz.ntmps29
  go_wp2_with fail
  go_loopw [7, 8] (fun vo vi wr => ∃ (j co no : Nat) (po : Option Addr) (out : List Gv), j ≤ np ∧ vi = .int .i64 j ∧ no ≤ j ∧ vo = .slice po no co ∧ Hid (wr.ownsRow w.heap.size 35 3 (.slice po no co) no (rw.flat gvC out)) ∧ Hid (parseL names 0 pairs [] = parseL names j (pairs.drop j) out) ∧ Hid (Below w.heap.size w wr)) (fun _ vi _ => np - (intOf vi).toNat)
  case atStart => exact ⟨0, 0, 0, none, [], by omega, rfl, by omega, rfl, HO0, Lib.hid rfl, Lib.hid (Below.refl _ _)⟩
  case round =>
    clear HO0
    obtain ⟨wq, rfl⟩ : ∃ wq, wq = wr := ⟨_, rfl⟩
    obtain ⟨j, co, no, po, out, hj, rfl, hno, rfl, HO, HR, Hb⟩ := hrel
    have hzq : w.heap.size ≤ wq.heap.size := Hb.out.size
    by_cases hlt : j < np
    · obtain ⟨x, hx⟩ : ∃ x, pairs[j]? = some x := ⟨_, List.getElem?_eq_getElem (by rw [Hnp.out]; exact hlt)⟩
      obtain ⟨bp, op, rfl, hbp⟩ := HptrP.out (by omega)
      have HcP : Hid (∀ W, Below w.heap.size w W → W.cell? ⟨bp, op + j, none⟩ = some (.string (B x)) ∧ bp < W.heap.size) := Lib.hid fun W hW => ⟨st_cell (HP.out.later hW) hx, by have := hW.size; omega⟩
      have c0 := (HcP.out _ Hb.out).1
      have hgo := (HcP.out _ Hb.out).2
      have hx31 := Hpl.out x (List.mem_of_getElem? hx)
      have Hx := Lib.hid hx
      have HF : Hid (∀ W, Calls Tryz.prog 59 #[.string (B x), .int .u8 61] W fun e w' => e = .returned (.tuple #[.string (B (bef 61 x)), .bool (decide ((61 : UInt8) ∈ x))]) ∧ W = w') := Lib.hid fun W => first_any (B x) 61 (by rw [B_size]; omega) W
      have hji : (j : Int) < (np : Int) := by omega
      have hj0 : (0 : Int) ≤ (j : Int) := by omega
      have hbl : (bef 61 x).length ≤ 2147483647 := by have := bef_len 61 x; omega
      obtain ⟨xb, hxb⟩ : ∃ xb, xb = B x := ⟨_, rfl⟩
      have hxsz : xb.size = x.length := by rw [hxb, B_size]
      have Hxsz := Lib.hid hxsz
      rw [← hxb] at c0 HF HcP
      have Hxb := Lib.hid hxb
      obtain ⟨nm, hnm⟩ : ∃ nm, nm = bef 61 x := ⟨_, rfl⟩
      rw [← hnm] at HF hbl
      have Hnm := Lib.hid hnm
      obtain ⟨nb, hnb⟩ : ∃ nb, nb = B nm := ⟨_, rfl⟩
      have Hnsz : Hid (nb.size = nm.length) := Lib.hid (by rw [hnb, B_size])
      rw [← hnb] at HF
      have Hnb := Lib.hid hnb
      clear hx hxb hnm hnb hxsz
      by_cases h61 : (61 : UInt8) ∈ x
      · rw [decide_eq_true h61] at HF
        have H61 := Lib.hid h61
        clear h61
        by_cases hne : nm = []
        · have Hr : Hid (parseL names 0 pairs [] = ([], 80, j)) := Lib.hid (by
            rw [HR.out, parse_err Hx.out (step_form (.inr (by rw [← Hnm.out]; exact hne)))])
          obtain rfl : nb = ⟨#[]⟩ := by rw [Hnb.out, hne]
          clear hne
          go_wp2_with fail
          refine (HF.out _).mono ?_
          rintro e w3 ⟨rfl, rfl⟩
          go_wp2_with fail
          go_ret3
          exact ⟨⟨.slice none 0 0, by first | (rw [Hr.out]; rfl) | rw [Hr.out], .inl ⟨by rw [Hr.out], rfl⟩⟩, Hb.out⟩
        · have hblq : nb.toList = nm := by rw [ByteArray.toList_eq, Hnb.out, B_list]
          have q1 : (nb.toList == []) = false := by
            rw [hblq, beq_eq_false_iff_ne]
            exact hne
          have q2 : nb.toList.isEmpty = false := by
            rw [hblq]
            cases nm with
            | nil => exact absurd rfl hne
            | cons a r => rfl
          have Hne := Lib.hid hne
          clear hblq hne
          go_wp2_with fail
          refine (HF.out _).mono ?_
          rintro e w3 ⟨rfl, rfl⟩
          go_wp2_with fail
          clear q1 q2
          go_loopw [7, 11, 12, 13] (fun vo vf vl vk wr => ∃ (k : Nat) (lk : Bool), k ≤ nn ∧ vk = .int .i64 k ∧ vl = .bool lk ∧ vf = .bool false ∧ vo = .slice po no co ∧ Hid (lk = (names.take k).any fun n => (partOf n).isPrefixOf nm) ∧ Hid (pickL (names.take k) nm = none) ∧ Hid (Below wq.heap.size wq wr)) (fun _ _ _ vk _ => nn - (intOf vk).toNat)
          case atStart => exact ⟨0, false, by omega, rfl, rfl, rfl, rfl, Lib.hid rfl, Lib.hid rfl, Lib.hid (Below.refl _ _)⟩
          case round =>
            obtain ⟨wo, rfl⟩ : ∃ wo, wo = wr := ⟨_, rfl⟩
            obtain ⟨k, lk, hk, rfl, rfl, rfl, rfl, HL, HPk, Hbk⟩ := hrel
            have Hwo : Hid (Below w.heap.size w wo) := Lib.hid (then_bel Hb.out hzq Hbk.out)
            by_cases hltk : k < nn
            · obtain ⟨y, hy⟩ : ∃ y, names[k]? = some y := ⟨_, List.getElem?_eq_getElem (by rw [Hnn.out]; exact hltk)⟩
              obtain ⟨bn, on, rfl, hbn⟩ := HptrN.out (by omega)
              have HcN : Hid (∀ W, Below w.heap.size w W → W.cell? ⟨bn, on + k, none⟩ = some (.string (B y)) ∧ bn < W.heap.size) := Lib.hid fun W hW => ⟨st_cell (HN.out.later hW) hy, by have := hW.size; omega⟩
              have d0 := (HcN.out _ Hwo.out).1
              have hdo := (HcN.out _ Hwo.out).2
              have hy31 := Hnl.out y (List.mem_of_getElem? hy)
              have Hy := Lib.hid hy
              have HFy : Hid (∀ W, Calls Tryz.prog 59 #[.string (B y), .int .u8 46] W fun e w' => e = .returned (.tuple #[.string (B (bef 46 y)), .bool (decide ((46 : UInt8) ∈ y))]) ∧ W = w') := Lib.hid fun W => first_any (B y) 46 (by rw [B_size]; omega) W
              have HGy : Hid (∀ W, Calls Tryz.prog 53 #[.string (B y)] W fun e w' => e = .returned (.string (B (greatL y))) ∧ Below W.heap.size W w') := Lib.hid fun W => refGreat_any (B y) (by rw [B_size]; omega) W
              have hb46 := bef_len 46 y
              have HGp : Hid (∀ W, Calls Tryz.prog 53 #[.string (B (bef 46 y))] W fun e w' => e = .returned (.string (B (greatL (bef 46 y)))) ∧ Below W.heap.size W w') := Lib.hid fun W => refGreat_any (B (bef 46 y)) (by rw [B_size]; omega) W
              have HBg : Hid (∀ W, Calls Tryz.prog 60 #[.string (B nm), .string (B (partOf y))] W fun e w' => e = .returned (.bool ((partOf y).isPrefixOf nm)) ∧ W = w') := Lib.hid fun W => refBegins_any (B nm) (B (partOf y)) (by rw [B_size]; exact hbl) (by rw [B_size]; unfold partOf; rw [List.length_append, great_len]; simp; omega) W
              have HAd : Hid (∀ W : World, (Op.stringOp .add (B (greatL (bef 46 y))) ⟨#[95]⟩).run Tryz.prog W = .ok (.string (B (partOf y))) W) := Lib.hid fun W => by
                have e : B (greatL (bef 46 y)) ++ (⟨#[95]⟩ : ByteArray) = B (partOf y) := by
                  apply ByteArray.ext
                  simp [partOf]
                rw [← e]
                refine run_string_add_sum W _ _ ?_
                have h2 : (⟨#[95]⟩ : ByteArray).size = 1 := rfl
                rw [B_size, great_len]
                omega
              have Hlk : Hid ((names.take (k + 1)).any (fun n => (partOf n).isPrefixOf nm) = (lk || (partOf y).isPrefixOf nm)) := Lib.hid (by rw [HL.out]; exact take_any hy)
              rw [← Hnb.out] at HBg
              have hki : (k : Int) < (nn : Int) := by omega
              have hk0 : (0 : Int) ≤ (k : Int) := by omega
              generalize decide ((46 : UInt8) ∈ y) = i46 at *
              generalize (partOf y).isPrefixOf nm = bg at *
              obtain ⟨gy, hgy⟩ : ∃ gy, gy = B (greatL y) := ⟨_, rfl⟩
              have Hgy := Lib.hid hgy
              rw [← hgy] at HGy
              obtain ⟨yb, hyb⟩ : ∃ yb, yb = B y := ⟨_, rfl⟩
              have Hyb := Lib.hid hyb
              rw [← hyb] at HGy HFy HcN d0
              generalize B (greatL (bef 46 y)) = gp at *
              generalize B (bef 46 y) = fp at *
              generalize B (partOf y) = pb at *
              clear hgy hyb hy hb46
              go_wp2_with fail
              refine (HFy.out _).mono ?_
              rintro e w4 ⟨rfl, rfl⟩
              go_wp2_with fail
              refine (HGy.out _).mono ?_
              rintro e w5 ⟨rfl, hb5⟩
              have Hb5 := Lib.hid (then_bel Hbk.out Hbk.out.size hb5)
              have Hw5 := Lib.hid (then_bel Hwo.out Hwo.out.size hb5)
              have d5 := (HcN.out _ Hw5.out).1
              have hd5 := (HcN.out _ Hw5.out).2
              have c5 := (HcP.out _ Hw5.out).1
              have hc5 := (HcP.out _ Hw5.out).2
              clear hb5 d0 hdo
              by_cases hgn : greatL y = nm
              · have q3 : (gy.toList == nb.toList) = true := by rw [ByteArray.toList_eq, ByteArray.toList_eq, Hgy.out, Hnb.out, hgn]; simp
                have Hst : Hid (stepL names x = .ok (some (y, aft 61 x))) := Lib.hid (step_pick H61.out (by rw [← Hnm.out]; exact Hne.out) (by rw [← Hnm.out]; exact pick_found Hy.out HPk.out hgn))
                have Hr2 : Hid (parseL names 0 pairs [] = parseL names (j + 1) (pairs.drop (j + 1)) (out ++ [⟨y, aft 61 x, j⟩])) := Lib.hid (by rw [HR.out, parse_take Hx.out Hst.out])
                have Had := aft_drop H61.out
                have hle : nb.size + 1 ≤ xb.size := by rw [Hnsz.out, Hxsz.out, Hnm.out]; exact Had.2
                have Hcut : Hid (B (aft 61 x) = xb.extract (nb.size + 1) xb.size) := Lib.hid (by
                  apply ByteArray.ext
                  apply Array.toList_inj.1
                  rw [extract_toList, Hxb.out, B_list, ← Had.1, Hnsz.out, Hnm.out, B_size, List.take_of_length_le (by simp)])
                obtain ⟨n1, hn1⟩ : ∃ n1, n1 = nb.size + 1 := ⟨_, rfl⟩
                rw [← hn1] at Hcut
                have hle1 : (n1 : Int) ≤ (xb.size : Int) := by omega
                have hle0 : (0 : Int) ≤ (n1 : Int) := by omega
                have hwr : IntKind.i64.wrap ((nb.size : Int) + 1) = (n1 : Int) := by
                  rw [IntWalk.i64_in _ (by have := Hnsz.out; omega)]
                  omega
                clear hn1 hle
                have HO5 := Lib.hid (ls.own_kept HO.out Hb5.out)
                have hz5 : w.heap.size ≤ w5.heap.size := Hw5.out.size
                clear hgn Had
                go_wp2_with fail
                go_region_law (first
                  | (refine step_append_k (by rfl) _ _ 31 (by rfl) 35 i1 _ 3 40 Tryz.underlying31 si sz0 sz1 sz2 rfl (by omega) _ (by rfl) (by rfl) w.heap.size _ no _ (by rfl) HO5.out (by simp [Value.oneCell']) (by omega) (by omega) hz5 ?_; intro g8 c8 w8 hown8 hgrow8 _ _ _; have HO8 := Lib.hid hown8; have HG8 := Lib.hid hgrow8; clear hown8 hgrow8)
                  | (refine step_append_k0 (by rfl) _ _ 31 (by rfl) 35 i1 _ 3 40 Tryz.underlying31 si sz0 sz1 sz2 rfl (by omega) _ (by rfl) (by rfl) w.heap.size _ no _ (by rfl) HO5.out (by simp [Value.oneCell']) (by omega) (by omega) hz5 ?_; intro g8 c8 w8 hown8 hgrow8 _ _ _; have HO8 := Lib.hid hown8; have HG8 := Lib.hid hgrow8; clear hown8 hgrow8)
                  | fail)
                all_goals
                  have HO9 : Hid (w8.ownsRow w.heap.size 35 3 (.slice (some ⟨g8, 0, none⟩) (no + 1) c8) (no + 1) (rw.flat gvC (out ++ [⟨y, aft 61 x, j⟩]))) := Lib.hid (by
                    rw [rw.flat_snoc]
                    show w8.ownsRow w.heap.size 35 3 _ (no + 1) (_ ++ [.string (B y), .string (B (aft 61 x)), .int .i64 j])
                    rw [← Hyb.out, Hcut.out]
                    exact HO8.out)
                  have Hb8 := Lib.hid (below_grown_own Hw5.out HO5.out HG8.out hz5)
                  clear q3 d5 hd5 c5 hc5
                  go_wp2_with fail
                  go_roundw
                  case rel => exact ⟨j + 1, c8, no + 1, some ⟨g8, 0, none⟩, _, by omega, by go_num, by omega, rfl, HO9, Hr2, Hb8⟩
                  case measure => simp [intOf]; omega
              · have q3 : (gy.toList == nb.toList) = false := by
                  rw [ByteArray.toList_eq, ByteArray.toList_eq, Hgy.out, Hnb.out, B_list, B_list, beq_eq_false_iff_ne]
                  exact hgn
                have HPk2 : Hid (pickL (names.take (k + 1)) nm = none) := Lib.hid (by rw [pick_take Hy.out HPk.out, if_neg hgn])
                clear hgn
                cases lk with
                | true =>
                  have HL2 : Hid (true = (names.take (k + 1)).any fun n => (partOf n).isPrefixOf nm) := Lib.hid (by rw [Hlk.out]; rfl)
                  go_wp2_with fail
                  go_roundw
                  case rel => exact ⟨k + 1, true, by omega, by go_num, rfl, rfl, rfl, HL2, HPk2, Hb5⟩
                  case measure => simp [intOf]; omega
                | false =>
                  have HL2 : Hid (bg = (names.take (k + 1)).any fun n => (partOf n).isPrefixOf nm) := Lib.hid (by rw [Hlk.out]; simp)
                  go_wp2_with fail
                  refine (HGp.out _).mono ?_
                  rintro e w6 ⟨rfl, hb6⟩
                  have Hb6 := Lib.hid (then_bel Hb5.out Hb5.out.size hb6)
                  have hadd := HAd.out
                  clear hb6
                  go_wp2_with fail
                  refine (HBg.out _).mono ?_
                  rintro e w7 ⟨rfl, rfl⟩
                  go_wp2_with fail
                  go_roundw
                  case rel => exact ⟨k + 1, bg, by omega, by go_num, rfl, rfl, rfl, HL2, HPk2, Hb6⟩
                  case measure => simp [intOf]; omega
            · obtain rfl : k = nn := by omega
              have htk : names.take k = names := List.take_of_length_le (by rw [Hnn.out]; exact Nat.le_refl _)
              have hL := HL.out
              have hPk := HPk.out
              rw [htk] at hL hPk
              have HLk : Hid (likeL names nm = lk) := Lib.hid hL.symm
              have HPn := Lib.hid hPk
              clear htk hL hPk
              cases lk with
              | true =>
                have Hr : Hid (parseL names 0 pairs [] = ([], 81, j)) := Lib.hid (by
                  rw [HR.out, parse_err Hx.out (step_like H61.out (by rw [← Hnm.out]; exact Hne.out) (by rw [← Hnm.out]; exact HPn.out) (by rw [← Hnm.out]; exact HLk.out))])
                go_wp2_with fail
                go_ret3
                exact ⟨⟨.slice none 0 0, by first | (rw [Hr.out]; rfl) | rw [Hr.out], .inl ⟨by rw [Hr.out], rfl⟩⟩, Hwo.out⟩
              | false =>
                have Hr2 : Hid (parseL names 0 pairs [] = parseL names (j + 1) (pairs.drop (j + 1)) out) := Lib.hid (by
                  rw [HR.out, parse_skip Hx.out (step_skip H61.out (by rw [← Hnm.out]; exact Hne.out) (by rw [← Hnm.out]; exact HPn.out) (by rw [← Hnm.out]; exact HLk.out))])
                have HOo := Lib.hid (ls.own_kept HO.out Hbk.out)
                go_wp2_with fail
                go_roundw
                case rel => exact ⟨j + 1, co, no, po, out, by omega, by go_num, by omega, rfl, HOo, Hr2, Hwo⟩
                case measure => simp [intOf]; omega
      · have Hr : Hid (parseL names 0 pairs [] = ([], 80, j)) := Lib.hid (by
          rw [HR.out, parse_err Hx.out (step_form (.inl h61))])
        rw [decide_eq_false h61] at HF
        clear h61
        go_wp2_with fail
        refine (HF.out _).mono ?_
        rintro e w3 ⟨rfl, rfl⟩
        go_wp2_with fail
        go_ret3
        exact ⟨⟨.slice none 0 0, by first | (rw [Hr.out]; rfl) | rw [Hr.out], .inl ⟨by rw [Hr.out], rfl⟩⟩, Hb.out⟩
    · obtain rfl : j = np := by omega
      have Hr : Hid (parseL names 0 pairs [] = (out, 0, 0)) := Lib.hid (by
        rw [HR.out, ← Hnp.out]
        exact parse_end names pairs out _)
      have HN2 := Lib.hid (rw.own_new gvC_len (by decide) HO.out)
      go_wp2_with fail
      go_ret3
      refine ⟨⟨_, by rw [Hr.out]; rfl, ?_⟩, Hb.out⟩
      rw [Hr.out]
      exact HN2.out
end Go.Proofs.YtpfhhaonfbfheaaGreatDoor.en
/- law 08's lent lays texts in new memory, two behind them; whole tells that they are as they were. Conditions: at most 2147483647 texts that lie in memory. -/
namespace Go.Proofs.YtpfhhaonfbfheaaGreatDoor.en
open Go.ChangeShapes Go.WideShapes Go.ChangeAt Go.RowKit gl va ls ky

/-- Texts in a block of their own. -/
def LieS (g : Nat) (w : World) (l : List (List UInt8)) : Prop := ∃ cs, w.heap[g]? = some (.cells cs 9 (0, 0)) ∧ l.length ≤ cs.size ∧ ∀ (j : Nat) (x : List UInt8), l[j]? = some x → cs[j]? = some (.string (B x))
theorem LieS.lt {g : Nat} {w : World} {l : List (List UInt8)} (h : LieS g w l) : g < w.heap.size := by obtain ⟨cs, h1, _⟩ := h; exact lt_of_block h1
theorem LieS.later {g : Nat} {w w' : World} {l : List (List UInt8)} (h : LieS g w l) (hb : Below w.heap.size w w') : LieS g w' l := by
  obtain ⟨cs, h1, h2⟩ := h
  exact ⟨cs, (hb.block g (lt_of_block h1)).trans h1, h2⟩
theorem LieS.cell {g : Nat} {w : World} {l : List (List UInt8)} (h : LieS g w l) {j : Nat} {x : List UInt8} (hx : l[j]? = some x) : w.cell? ⟨g, j, none⟩ = some (.string (B x)) := by
  obtain ⟨cs, h1, _, h3⟩ := h
  rw [cell_in h1]
  exact h3 j x hx
theorem LieS.sts {g n c : Nat} {w : World} {l : List (List UInt8)} (h : LieS g w l) (hn : n ≤ l.length) (hc : n ≤ c) : Sts w (.slice (some ⟨g, 0, none⟩) n c) (l.take n) := by
  have hl : (l.take n).length = n := by rw [List.length_take, Nat.min_eq_left hn]
  refine ⟨_, c, by rw [hl], by rw [hl]; exact hc, .inr ⟨g, 0, rfl, h.lt, fun j x hx i u hu => ?_⟩⟩
  have hj := ls.lt_get hx
  rw [hl] at hj
  rw [List.getElem?_take_of_lt hj] at hx
  obtain rfl : i = 0 := by have := ls.lt_get hu; simp [stC] at this; omega
  have hu' : u = .string (B x) := by simpa [stC] using hu.symm
  rw [hu', Nat.mul_one, Nat.add_zero, Nat.zero_add]
  exact h.cell hx
theorem LieS.set {g : Nat} {w : World} {l : List (List UInt8)} (h : LieS g w l) {m : Nat} {a : List UInt8} (hm : m < l.length) : LieS g (w.setCell ⟨g, m, none⟩ (.string (B a))) (l.set m a) := by
  obtain ⟨cs, h1, h2, h3⟩ := h
  refine ⟨_, heap_set h1 _, by simpa using h2, fun j x hx => ?_⟩
  rw [List.getElem?_set] at hx
  rw [Array.getElem?_setIfInBounds]
  by_cases hj : m = j
  · subst hj
    rw [if_pos rfl] at hx ⊢
    have hx2 : a = x := by simpa [hm] using hx
    rw [if_pos (by omega), hx2]
  · rw [if_neg hj] at hx ⊢
    exact h3 j x hx
theorem run_copy_s {P : Program} (w : World) (dT sT ty elem : TypeId) (g dLen dCap : Nat) (a : Addr) (sLen sCap : Nat) (cur : Array Value) (t : TypeId) (cs : List Value) (n : Nat)
    (hu : P.underlying dT = some (.slice elem)) (hs : (P.info? elem).map (·.size) = some 1) (hmin : Nat.min sLen dLen = n)
    (hg : w.heap[g]? = some (.cells cur t (0, 0))) (hn : cs.length = n)
    (hsrc : ∀ j v, cs[j]? = some v → w.cell? (a.add j) = some v) (hfit : cs.length ≤ cur.size) (h1 : ∀ v ∈ cs, v.oneCell' = true) :
    (Builtin.copy_ #[dT, sT] ty #[.slice (some ⟨g, 0, none⟩) dLen dCap, .slice (some a) sLen sCap]).run P w =
      .ok (goInt n) (w.setRow g (cs ++ cur.toList.drop cs.length).toArray) := by
  have hl := run_loadCells_list (P := P) w a cs hsrc
  have hst := run_storeCells_at P g 0 t cs 0 cur w hg (by simpa using hfit) h1
  cases hq : P.info? elem with
  | none => simp [hq] at hs
  | some i =>
    have hi : i.size = 1 := by simpa [hq] using hs
    simp only [Nat.zero_add, List.take_zero, List.nil_append] at hst
    simp [Builtin.copy_, run_underlying hu, Builtin.lenOf, Builtin.firstCells, sizeOf, typeInfo, hq, hi, hmin, ← hn, hl, hst]
theorem run_copy_s0 {P : Program} (w : World) (dT sT ty elem : TypeId) (d a : Option Addr) (dLen dCap sLen sCap size : Nat) (hu : P.underlying dT = some (.slice elem)) (hs : (P.info? elem).map (·.size) = some size) (hn : Nat.min sLen dLen = 0) :
    (Builtin.copy_ #[dT, sT] ty #[.slice d dLen dCap, .slice a sLen sCap]).run P w = .ok (goInt 0) w := by
  cases hq : P.info? elem with
  | none => simp [hq] at hs
  | some i =>
    have hl : ∀ (x : Addr), (loadCells x 0).run P w = .ok #[] w := fun x => by simpa using run_loadCells_list (P := P) w x [] (by simp)
    cases d <;> cases a <;> simp [Builtin.copy_, run_underlying hu, Builtin.lenOf, Builtin.firstCells, sizeOf, typeInfo, hq, hn, storeCells, hl]
theorem infoSz : (Tryz.prog.info? 9).map (·.size) = some 1 := by kernel_rfl
def blankS (n : Nat) : Array Value := madeCells (Value.cells (.string .empty)) (n * 1)
theorem blankS_size (n : Nat) : (blankS n).size = n := by simp [blankS, madeCells]
theorem blankS_at (n j : Nat) (hj : j < n) : (blankS n)[j]? = some (.string ⟨#[]⟩) := by
  simp only [blankS, madeCells, Value.cells, Array.getElem?_map]
  rw [Array.getElem?_eq_getElem (by simpa using hj)]
  simp only [Array.getElem_range, Option.map_some]
  show some (#[Value.string ByteArray.empty][j % 1]!) = _
  rw [Nat.mod_one]
  rfl
theorem makeS (m : Nat) (hm : m ≤ 2147483647) (w : World) : (Instr.makeSlice 38 (.int .i64 ((m : Int) + 2)) (.int .i64 ((m : Int) + 2))).run Tryz.prog w = .ok (.slice (some ⟨w.heap.size, 0, none⟩) (m + 2) (m + 2)) (w.alloc (.cells (blankS (m + 2)) 9)) := by
  obtain ⟨i, hi, he⟩ := Option.map_eq_some_iff.1 infoStr
  simp only [Prod.mk.injEq] at he
  obtain ⟨hz, h1, h8⟩ := he
  have h := run_make (P := Tryz.prog) w 38 9 i (.string .empty) Tryz.underlying38 hi hz .i64 .i64 ((m : Int) + 2) ((m : Int) + 2) (by omega) (by omega) (by rw [h8]; omega) (by omega)
  rw [h, h1, show ((m : Int) + 2).toNat = m + 2 by omega]
  rfl
def spareS : List UInt8 := [115, 112, 97, 114, 101]
/-- The texts, and what stands behind them. -/
def lentL (l : List (List UInt8)) : List (List UInt8) := l ++ [spareS, []]
theorem lentL_len (l : List (List UInt8)) : (lentL l).length = l.length + 2 := by simp [lentL]
theorem flat_st (l : List (List UInt8)) (j : Nat) : (rw.flat stC l)[j]? = (l[j]?).map fun x => .string (B x) := by
  have e : rw.flat stC l = l.map fun x => .string (B x) := by
    unfold rw.flat
    induction l with
    | nil => rfl
    | cons a r ih => rw [List.flatMap_cons, ih]; rfl
  rw [e, List.getElem?_map]
theorem flat_stl (l : List (List UInt8)) : (rw.flat stC l).length = l.length := by rw [rw.flat_len stC_len, Nat.mul_one]
theorem lies_copied {g m : Nat} {w : World} {l : List (List UInt8)} (hl : l.length = m) (h : w.heap[g]? = some (.cells ((rw.flat stC l) ++ (blankS (m + 2)).toList.drop (rw.flat stC l).length).toArray 9 (0, 0))) : LieS g w (l ++ [[], []]) := by
  refine ⟨_, h, by simp [flat_stl, hl, blankS_size], fun j x hj => ?_⟩
  rw [List.getElem?_toArray]
  by_cases hlt : j < l.length
  · rw [List.getElem?_append_left hlt] at hj
    rw [List.getElem?_append_left (by rw [flat_stl]; exact hlt), flat_st, hj]
    rfl
  · rw [List.getElem?_append_right (by omega)] at hj
    rw [List.getElem?_append_right (by rw [flat_stl]; omega), flat_stl]
    have hj2 : j - l.length < 2 := (List.getElem?_eq_some_iff.1 hj).1
    have hx : x = [] := by
      have hc : j - l.length = 0 ∨ j - l.length = 1 := by omega
      rcases hc with hc | hc
      · rw [hc] at hj; simpa using hj.symm
      · rw [hc] at hj; simpa using hj.symm
    rw [hx, List.getElem?_drop, show l.length + (j - l.length) = j by omega, Array.getElem?_toList]
    exact blankS_at _ _ (by omega)
theorem lies_lent {g m : Nat} {w : World} {l : List (List UInt8)} (hl : l.length = m) (h : LieS g w (l ++ [[], []])) : LieS g (w.setCell ⟨g, m, none⟩ (.string ⟨#[115, 112, 97, 114, 101]⟩)) (lentL l) := by
  have := h.set (m := m) (a := spareS) (by simp [hl])
  rw [List.set_append_right _ _ (by omega), hl, Nat.sub_self] at this
  exact this

theorem lent_take {g m : Nat} {w : World} {l : List (List UInt8)} (hl : l.length = m) (h : LieS g w (lentL l)) : Sts w (.slice (some ⟨g, 0, none⟩) m (m + 2)) l := by
  have h2 := h.sts (n := m) (c := m + 2) (by rw [lentL_len]; omega) (by omega)
  have e : (lentL l).take m = l := by unfold lentL; rw [List.take_append_of_le_length (by omega), List.take_of_length_le (by omega)]
  rwa [e] at h2
end Go.Proofs.YtpfhhaonfbfheaaGreatDoor.en
/- tinderboxlaw08.EnvParses: laws on memory: the lists that came out, in a row, beside the lists they are compared with. No walk; no conditions. -/
namespace Go.Proofs.YtpfhhaonfbfheaaGreatDoor.en
open Go.ChangeShapes Go.WideShapes Go.ChangeAt Go.RowKit gl va

theorem gvs_hold {M : Nat} {w : World} {i q : Nat} {R : ls.LR} {l : List Gv} {mk : Nat → List Value} (h : NewGvs M w R.v l) (hl : l.length ≤ 4294967295) (hq : q = 0) : ls.HoldR 35 3 mk M w.heap.size w i R q := by
  obtain ⟨p, n, c⟩ := R
  rcases h with ⟨rfl, h⟩ | ⟨g, c', cs, h, hc, hg, hb, hcs, _⟩
  · simp only [ls.LR.v, Value.slice.injEq] at h
    obtain ⟨rfl, rfl, rfl⟩ := h
    exact ⟨by simp, Nat.le_refl _, .inl ⟨rfl, rfl, rfl⟩⟩
  · simp only [ls.LR.v, Value.slice.injEq] at h
    obtain ⟨rfl, rfl, rfl⟩ := h
    exact ⟨hl, hc, .inr ⟨g, cs, rfl, hg, lt_of_block hb, hb, hcs, fun j hj => by omega⟩⟩

structure PL (M : Nat) (w : World) (k : Nat) (pl : Option Addr) (cl : Nat) (pw : Option Addr) (cw : Nat) (rs : List ls.LR) (lss : List (List Gv)) (vw : List Value) : Prop where
  ownl : w.ownsRow M 31 1 (.slice pl k cl) k (rs.map ls.LR.v)
  ownw : w.ownsRow M 31 1 (.slice pw k cw) k vw
  apart : ∀ g, (Value.slice pl k cl).ownBlock = some g → (Value.slice pw k cw).ownBlock ≠ some g
  len : lss.length = k
  dist : ls.Dist rs
  news : ∀ (i : Nat) (R : ls.LR) (l : List Gv), rs[i]? = some R → lss[i]? = some l → NewGvs M w R.v l ∧ l.length ≤ 4294967295
  wants : ∀ (i : Nat) (v : Value) (l : List Gv), vw[i]? = some v → lss[i]? = some l → NewGvs M w v l
theorem own_other {w w' : World} {base n size : Nat} {e : TypeId} {v : Value} {xs : List Value} {row : Option Nat} (ho : w.ownsRow base e size v n xs) (hg : w.grownBy w' row) (hr : ∀ g, v.ownBlock = some g → row ≠ some g) : w'.ownsRow base e size v n xs :=
  (Upd.of_grown (S := row.toList) hg (fun k hk => by rw [hk]; simp)).row ho fun g hgb hm => hr g hgb (by simpa using hm)
theorem PL.start (M : Nat) (w : World) : PL M w 0 none 0 none 0 [] [] [] :=
  ⟨⟨rfl, .inl ⟨rfl, rfl⟩⟩, ⟨rfl, .inl ⟨rfl, rfl⟩⟩, fun g h => (by cases h), rfl, fun i j Ri Rj g h => (by simp at h), fun i R xs h => (by simp at h), fun i v xs h => (by simp at h)⟩
theorem PL.keep {M : Nat} {w w' : World} {k cl cw : Nat} {pl pw : Option Addr} {rs : List ls.LR} {lss : List (List Gv)} {vw : List Value} (h : PL M w k pl cl pw cw rs lss vw) (hb : Below w.heap.size w w') : PL M w' k pl cl pw cw rs lss vw :=
  ⟨ls.own_kept h.ownl hb, ls.own_kept h.ownw hb, h.apart, h.len, h.dist, fun i R xs h1 h2 => ⟨(h.news i R xs h1 h2).1.later hb, (h.news i R xs h1 h2).2⟩, fun i v xs h1 h2 => (h.wants i v xs h1 h2).later hb⟩
theorem PL.fresh {M : Nat} {w w' : World} {k cl cw : Nat} {pl pw : Option Addr} {rs : List ls.LR} {lss : List (List Gv)} {vw : List Value} (h : PL M w k pl cl pw cw rs lss vw) {R : ls.LR} {l : List Gv} (hR : NewGvs w.heap.size w' R.v l) :
    ∀ (i : Nat) (S : ls.LR) (g : Nat), rs[i]? = some S → S.p = some ⟨g, 0, none⟩ → R.p ≠ some ⟨g, 0, none⟩ := by
  intro i S g hS hp e
  obtain ⟨p, n, c⟩ := R
  have hrl : rs.length = k := by have := h.ownl.1; simpa using this
  have hi := ls.lt_get hS
  obtain ⟨xs, hx⟩ : ∃ xs, lss[i]? = some xs := ⟨_, List.getElem?_eq_getElem (by rw [h.len]; omega)⟩
  rcases hR with ⟨_, h1⟩ | ⟨q, c', cs, h1, _, h2, _⟩
  · simp only [ls.LR.v, Value.slice.injEq] at h1
    rw [h1.1] at e; cases e
  · simp only [ls.LR.v, Value.slice.injEq] at h1
    simp only [h1.1] at e
    obtain rfl : q = g := by simpa using e
    obtain ⟨p', n', c2⟩ := S
    rcases (h.news i _ xs hS hx).1 with ⟨_, h3⟩ | ⟨q', c3, cs', h3, _, _, h4, _⟩
    · simp only [ls.LR.v, Value.slice.injEq] at h3
      simp only [h3.1] at hp; cases hp
    · simp only [ls.LR.v, Value.slice.injEq] at h3
      simp only [h3.1] at hp
      obtain rfl : q' = q := by simpa using hp
      have := lt_of_block h4
      omega
theorem PL.wantAt {M : Nat} {w wa : World} {k cl cw : Nat} {pl pw : Option Addr} {rs : List ls.LR} {lss : List (List Gv)} {vw : List Value}
    (h : PL M w k pl cl pw cw rs lss vw) (hga : w.grownBy wa (Value.slice pl k cl).ownBlock) : wa.ownsRow M 31 1 (.slice pw k cw) k vw := own_other h.ownw hga fun g hg e => h.apart g e hg
/-- One list more, in two appends. -/
theorem PL.next {M : Nat} {w wa wb : World} {k cl cw ga gb ca cb : Nat} {pl pw : Option Addr} {rs : List ls.LR} {lss : List (List Gv)} {vw : List Value} {R : ls.LR} {l : List Gv} {v : Value}
    (h : PL M w k pl cl pw cw rs lss vw) (hR : NewGvs M w R.v l) (hRn : l.length ≤ 4294967295) (hRd : ∀ (i : Nat) (S : ls.LR) (g : Nat), rs[i]? = some S → S.p = some ⟨g, 0, none⟩ → R.p ≠ some ⟨g, 0, none⟩) (hvx : NewGvs M w v l)
    (oa : wa.ownsRow M 31 1 (.slice (some ⟨ga, 0, none⟩) (k + 1) ca) (k + 1) (rs.map ls.LR.v ++ [R.v])) (hga : w.grownBy wa (Value.slice pl k cl).ownBlock) (hat : (Value.slice pl k cl).ownBlock = some ga ∨ w.heap.size ≤ ga) (hgl : ga < wa.heap.size)
    (ob : wb.ownsRow M 31 1 (.slice (some ⟨gb, 0, none⟩) (k + 1) cb) (k + 1) (vw ++ [v])) (hgb : wa.grownBy wb (Value.slice pw k cw).ownBlock) (hbt : (Value.slice pw k cw).ownBlock = some gb ∨ wa.heap.size ≤ gb) :
    PL M wb (k + 1) (some ⟨ga, 0, none⟩) ca (some ⟨gb, 0, none⟩) cb (rs ++ [R]) (lss ++ [l]) (vw ++ [v]) := by
  have k1 : ls.SK 35 w wa := ls.SK.own (by decide) h.ownl hga
  have ow : wa.ownsRow M 31 1 (.slice pw k cw) k vw := own_other h.ownw hga fun g hg e => h.apart g e hg
  have k2 : ls.SK 35 wa wb := ls.SK.own (by decide) ow hgb
  have kk := k1.trans k2
  have hne : ∀ g, (Value.slice pw k cw).ownBlock = some g → g ≠ ga := by
    rintro g hg rfl
    rcases hat with h1 | h1
    · exact h.apart g h1 hg
    · have := (h.ownw.lt g hg).2; omega
  have ol : wb.ownsRow M 31 1 (.slice (some ⟨ga, 0, none⟩) (k + 1) ca) (k + 1) (rs.map ls.LR.v ++ [R.v]) := own_other oa hgb fun g hg e => hne g e (by cases hg; rfl)
  have hrl : rs.length = k := by have := h.ownl.1; simpa using this
  have hvl : vw.length = k := by have := h.ownw.1; simpa using this
  refine ⟨by rw [List.map_append]; exact ol, ob, ?_, by rw [List.length_append, h.len]; rfl, ?_, ?_, ?_⟩
  · intro g hg e
    cases hg
    cases e
    rcases hbt with h1 | h1
    · exact hne _ h1 rfl
    · omega
  · intro i j Ri Rj g hi hj hpi hpj
    rcases ls.get_snoc hi with hi2 | ⟨e1, e2⟩
    · rcases ls.get_snoc hj with hj2 | ⟨e3, e4⟩
      · exact h.dist i j Ri Rj g hi2 hj2 hpi hpj
      · rw [e4] at hpj
        exact absurd hpj (hRd i Ri g hi2 hpi)
    · rcases ls.get_snoc hj with hj2 | ⟨e3, e4⟩
      · rw [e2] at hpi
        exact absurd hpi (hRd j Rj g hj2 hpj)
      · rw [e1, e3]
  · intro i S ys hS hy
    rcases ls.get_snoc hS with hS | ⟨rfl, rfl⟩
    · rcases ls.get_snoc hy with hy | ⟨h1, rfl⟩
      · exact ⟨(h.news i S ys hS hy).1.keep kk, (h.news i S ys hS hy).2⟩
      · have := ls.lt_get hS; rw [h.len] at h1; omega
    · rcases ls.get_snoc hy with hy | ⟨h1, rfl⟩
      · have := ls.lt_get hy; rw [h.len] at this; omega
      · exact ⟨hR.keep kk, hRn⟩
  · intro i u ys hu hy
    rcases ls.get_snoc hu with hu | ⟨rfl, rfl⟩
    · rcases ls.get_snoc hy with hy | ⟨h1, rfl⟩
      · exact (h.wants i u ys hu hy).keep kk
      · have := ls.lt_get hu; rw [h.len] at h1; omega
    · rcases ls.get_snoc hy with hy | ⟨h1, rfl⟩
      · have := ls.lt_get hy; rw [h.len] at this; omega
      · exact hvx.keep kk
/-- The rows, as blocks. -/
theorem PL.rowL {M : Nat} {w : World} {k cl cw : Nat} {pl pw : Option Addr} {rs : List ls.LR} {lss : List (List Gv)} {vw : List Value} (h : PL M w k pl cl pw cw rs lss vw) (hk : 0 < k) :
    ∃ gl, pl = some ⟨gl, 0, none⟩ ∧ k ≤ cl ∧ M ≤ gl ∧ ls.LRow 31 w gl rs := by
  have hrl : rs.length = k := by have := h.ownl.1; simpa using this
  rcases h.ownl.2 with ⟨_, h0⟩ | ⟨gl, cap, cur, hv, hg, hbl, hnc, _, _, htake⟩
  · omega
  · cases hv
    refine ⟨gl, rfl, hnc, hg, cur, hbl, fun i R hR => ?_⟩
    have h1 : (rs.map ls.LR.v)[i]? = some R.v := by rw [List.getElem?_map, hR]; rfl
    have := ls.lt_get hR
    rw [← htake, List.getElem?_take_of_lt (by omega)] at h1
    rwa [Array.getElem?_toList] at h1
theorem PL.rowW {M : Nat} {w : World} {k cl cw : Nat} {pl pw : Option Addr} {rs : List ls.LR} {lss : List (List Gv)} {vw : List Value} (h : PL M w k pl cl pw cw rs lss vw) (hk : 0 < k) :
    ∃ gw, pw = some ⟨gw, 0, none⟩ ∧ k ≤ cw ∧ gw < w.heap.size ∧ ∀ (i : Nat) (l : List Gv), lss[i]? = some l → ∃ p c, w.cell? ⟨gw, i, none⟩ = some (.slice p l.length c) ∧ Gvs w (.slice p l.length c) l := by
  have hvl : vw.length = k := by have := h.ownw.1; simpa using this
  rcases h.ownw.2 with ⟨_, h0⟩ | ⟨gw, capw, curw, hvw, _, hbw, hncw, _⟩
  · omega
  · cases hvw
    refine ⟨gw, rfl, hncw, lt_of_block hbw, fun i l hx => ?_⟩
    have hi := ls.lt_get hx
    rw [h.len] at hi
    obtain ⟨v, hv⟩ : ∃ v, vw[i]? = some v := ⟨_, List.getElem?_eq_getElem (by omega)⟩
    have hs := h.wants i v l hv hx
    have hc := h.ownw.cells (g := gw) rfl i v hv
    rw [ls.addN, Nat.zero_add] at hc
    obtain ⟨p, c, rfl⟩ := hs.form
    exact ⟨p, c, hc, hs.rw gvC_len⟩
theorem PL.holds {M : Nat} {w : World} {k cl cw : Nat} {pl pw : Option Addr} {rs : List ls.LR} {lss : List (List Gv)} {vw : List Value} {mk : Nat → List Value} (h : PL M w k pl cl pw cw rs lss vw) : ls.Hold 35 3 mk M w.heap.size w rs 0 (ls.cntAt 0 0) := by
  intro i R _ hR
  have hrl : rs.length = k := by have := h.ownl.1; simpa using this
  have hi := ls.lt_get hR
  obtain ⟨xs, hx⟩ : ∃ xs, lss[i]? = some xs := ⟨_, List.getElem?_eq_getElem (by rw [h.len]; omega)⟩
  obtain ⟨h1, h2⟩ := h.news i R xs hR hx
  refine gvs_hold h1 h2 ?_
  unfold ls.cntAt
  rw [if_neg (by omega)]
  split <;> rfl
theorem PL.lists {M : Nat} {w : World} {k cl cw : Nat} {pl pw : Option Addr} {rs : List ls.LR} {lss : List (List Gv)} {vw : List Value} (h : PL M w k pl cl pw cw rs lss vw) (i : Nat) (R : ls.LR) (l : List Gv) (h1 : rs[i]? = some R) (h2 : lss[i]? = some l) : Gvs w R.v l := (h.news i R l h1 h2).1.rw gvC_len
end Go.Proofs.YtpfhhaonfbfheaaGreatDoor.en
/- Two settings that were given held against each other. No conditions. -/
namespace Go.Proofs.YtpfhhaonfbfheaaGreatDoor.en
open Go.RowKit

theorem gvFields : (Tryz.prog.fieldsOf 35).toList.map (fun f => (decide (f.name ≠ "_"), f.type, f.offset)) = [(true, 9, 0), (true, 9, 1), (true, 3, 2)] := by kernel_rfl
theorem three_fields {l : List Field} {t0 t1 t2 : TypeId} (h : l.map (fun f => (decide (f.name ≠ "_"), f.type, f.offset)) = [(true, t0, 0), (true, t1, 1), (true, t2, 2)]) :
    ∃ f0 f1 f2 : Field, l = [f0, f1, f2] ∧ f0.name ≠ "_" ∧ f0.type = t0 ∧ f0.offset = 0 ∧ f1.name ≠ "_" ∧ f1.type = t1 ∧ f1.offset = 1 ∧ f2.name ≠ "_" ∧ f2.type = t2 ∧ f2.offset = 2 := by
  obtain ⟨f0, r0, rfl, h0, h⟩ := List.map_eq_cons_iff.1 h
  obtain ⟨f1, r1, rfl, h1, h⟩ := List.map_eq_cons_iff.1 h
  obtain ⟨f2, r2, rfl, h2, h⟩ := List.map_eq_cons_iff.1 h
  obtain rfl := List.map_eq_nil_iff.1 h
  simp only [Prod.mk.injEq, decide_eq_true_eq] at h0 h1 h2
  exact ⟨f0, f1, f2, rfl, h0.1, h0.2.1, h0.2.2, h1.1, h1.2.1, h1.2.2, h2.1, h2.2.1, h2.2.2⟩
set_option maxRecDepth 100000 in
theorem neq_gv (a b a2 b2 : ByteArray) (n n2 : Int) (w : World) :
    (binOp .neq 35 (.agg #[.string a, .string b, .int .i64 n]) (.agg #[.string a2, .string b2, .int .i64 n2])).run Tryz.prog w = .ok (.bool (!((a.toList == a2.toList) && ((b.toList == b2.toList) && (n == n2))))) w := by
  have hs : Tryz.prog.underlying 9 = some .string := Tryz.underlying9
  have hi : Tryz.prog.underlying 3 = some (.int .i64) := Tryz.underlying3
  have hc : Tryz.prog.cellsOf 9 = 1 := by kernel_rfl
  have hc2 : Tryz.prog.cellsOf 3 = 1 := by kernel_rfl
  obtain ⟨f0, f1, f2, hf, n0, t0, o0, n1, t1, o1, n2', t2, o2⟩ := three_fields gvFields
  rw [run_neq_struct, run_equalIn_struct w 9999 35 _ _ Tryz.underlying35 (by kernel_rfl), hf]
  simp only [Op.eqFields, n0, n1, n2', t0, t1, t2, o0, o1, o2, ne_eq, not_false_eq_true, if_true]
  cases h1 : (a.toList == a2.toList) <;> cases h2 : (b.toList == b2.toList) <;> cases h3 : (n == n2) <;> simp [go_sem, part, hs, hi, h1, h2, h3]
  all_goals trace_state
set_option maxRecDepth 100000 in
theorem eql_gv (a b a2 b2 : ByteArray) (n n2 : Int) (w : World) :
    (binOp .eql 35 (.agg #[.string a, .string b, .int .i64 n]) (.agg #[.string a2, .string b2, .int .i64 n2])).run Tryz.prog w = .ok (.bool ((a.toList == a2.toList) && ((b.toList == b2.toList) && (n == n2)))) w := by
  have hs : Tryz.prog.underlying 9 = some .string := Tryz.underlying9
  have hi : Tryz.prog.underlying 3 = some (.int .i64) := Tryz.underlying3
  have hc : Tryz.prog.cellsOf 9 = 1 := by kernel_rfl
  have hc2 : Tryz.prog.cellsOf 3 = 1 := by kernel_rfl
  obtain ⟨f0, f1, f2, hf, n0, t0, o0, n1, t1, o1, n2', t2, o2⟩ := three_fields gvFields
  rw [run_eql_struct, run_equalIn_struct w 9999 35 _ _ Tryz.underlying35 (by kernel_rfl), hf]
  simp only [Op.eqFields, n0, n1, n2', t0, t1, t2, o0, o1, o2, ne_eq, not_false_eq_true, if_true]
  cases h1 : (a.toList == a2.toList) <;> cases h2 : (b.toList == b2.toList) <;> cases h3 : (n == n2) <;> simp [go_sem, part, hs, hi, h1, h2, h3]
  all_goals trace_state
end Go.Proofs.YtpfhhaonfbfheaaGreatDoor.en
/- law 08's given tells lists that are the same; owned returns true: lists that were given lie in blocks of their own, apart from each other. Conditions: at most seven lists, in a row. -/
namespace Go.Proofs.YtpfhhaonfbfheaaGreatDoor.en
open Go.ChangeShapes Go.WideShapes Go.ChangeAt Go.RowKit gl va

theorem neq_gv_same (a b : ByteArray) (n : Int) (w : World) : (binOp .neq 35 (.agg #[.string a, .string b, .int .i64 n]) (.agg #[.string a, .string b, .int .i64 n])).run Tryz.prog w = .ok (.bool false) w := by
  rw [neq_gv]
  simp
set_option maxHeartbeats 2000000 in
set_option maxRecDepth 100000 in
/-- Lists that are the same. -/
theorem given_any (p p' : Option Addr) (m c c' : Nat) (l : List Gv) (hm : m ≤ 4294967295) (w : World) (h : Gvs w (.slice p m c) l) (h' : Gvs w (.slice p' m c') l) :
    Calls Tryz.prog 30 #[.slice p m c, .slice p' m c'] w fun e w' => e = .returned (.bool true) ∧ ∃ q, w' = w.drewN q := by
  obtain ⟨hlen, hmc, hptr⟩ := h.ptr
  obtain ⟨_, hmc', hptr'⟩ := h'.ptr
  have HS := Lib.hid h
  have HS' := Lib.hid h'
  have Hlen := Lib.hid hlen
  have Hptr := Lib.hid hptr
  have Hptr' := Lib.hid hptr'
  have hneq := neq_gv_same
  clear h h' hlen hptr hptr'
  go_enter Tryz.func30, Tryz.ntmps30
  go_wp2_with fail
  go_loopw [5] (fun i wr => ∃ j q : Nat, j ≤ m ∧ i = .int .i64 j ∧ wr = w.drewN q) (fun i _ => m - (intOf i).toNat)
  case atStart => exact ⟨0, 0, by omega, rfl, rfl⟩
  case round =>
    obtain ⟨j, q, hj, rfl, hwr⟩ := hrel
    have Hq := Lib.hid hwr
    have hbq : Below w.heap.size w wr := by rw [hwr]; exact drewN_bel w q
    have Hbq := Lib.hid hbq
    clear hwr hbq
    by_cases hlt : j < m
    · obtain ⟨b, o, rfl, hbl⟩ := Hptr.out (by omega)
      obtain ⟨b', o', rfl, hbl'⟩ := Hptr'.out (by omega)
      obtain ⟨x, hx⟩ : ∃ x, l[j]? = some x := ⟨_, List.getElem?_eq_getElem (by rw [Hlen.out]; exact hlt)⟩
      obtain ⟨c0, c1, c2⟩ := gv_cells (HS.out.later Hbq.out) hx
      obtain ⟨d0, d1, d2⟩ := gv_cells (HS'.out.later Hbq.out) hx
      have hzq := Hbq.out.size
      have hbr : b < wr.heap.size := by omega
      have hbr' : b' < wr.heap.size := by omega
      have hji : (j : Int) < (m : Int) := by omega
      have hj0 : (0 : Int) ≤ (j : Int) := by omega
      clear hx
      generalize B x.name = nm at *
      generalize B x.text = tx at *
      generalize (x.pos : Int) = ps at *
      go_wp2_with fail
      go_quiet (fail)
      rename_i nq
      go_wp2_with fail
      go_roundw
      case rel => exact ⟨j + 1, q + nq, by omega, by go_num, by rw [Hq.out, World.drewN_drewN]⟩
      case measure => simp [intOf]; omega
    · obtain rfl : j = m := by omega
      go_wp2_with fail
      go_ret
      exact ⟨rfl, q, Hq.out⟩

def markG (i : Nat) : List Value := [.string ⟨#[]⟩, .string ⟨#[]⟩, .int .i64 (-1 - (i : Int))]
theorem markG_len (i : Nat) : (markG i).length = 3 := rfl
abbrev HoldG := ls.Hold 35 3 markG
abbrev PhG := ls.Ph 35 31 3 markG 6
abbrev GrG := ls.Gr 35 3 markG
theorem infoGs : (Tryz.prog.info? 31).map (fun i => (i.zero, i.size, i.bytes)) = some (some (.slice none 0 0), 1, 24) := by kernel_rfl

set_option maxHeartbeats 8000000 in
set_option maxRecDepth 100000 in
theorem owned_any (B0 : Nat) (rs : List ls.LR) (n : Nat) (hn7 : n ≤ 7) (hlen : rs.length = n) (gl cl : Nat) (hcl : n ≤ cl) (w : World) (hB : B0 ≤ w.heap.size) (hH : HoldG B0 w.heap.size w rs 0 (ls.cntAt 0 0)) (hD : ls.Dist rs) (hL : ls.LRow 31 w gl rs) :
    Calls Tryz.prog 31 #[.slice (some ⟨gl, 0, none⟩) n cl] w fun e w' => e = .returned (.bool true) ∧ Below B0 w w' := by
  have HD := Lib.hid hD
  have Hlen := Lib.hid hlen
  obtain ⟨i0, si, sz0, sz1, sz2⟩ := info_parts infoGv
  obtain ⟨i1, hi, hz0, hz1, hz2⟩ := info_parts infoGs
  have hgl : gl < w.heap.size := hL.lt
  have HH1 := Lib.hid hH
  have HL1 := Lib.hid hL
  have HB1 : Hid (Below B0 w w) := Lib.hid (Below.refl _ _)
  clear hH hD hL hlen
  go_enter Tryz.func31, Tryz.ntmps31
  go_wp2_with fail
  go_loopw [3] (fun i wr => ∃ k2 : Nat, k2 ≤ n ∧ i = .int .i64 k2 ∧ Hid (HoldG B0 w.heap.size wr rs 0 (ls.cntAt k2 0)) ∧ Hid (ls.LRow 31 wr gl rs) ∧ Hid (Below B0 w wr)) (fun i _ => n - (intOf i).toNat)
  case atStart => exact ⟨0, by omega, rfl, HH1, HL1, HB1⟩
  case round =>
    clear HH1 HL1 HB1
    obtain ⟨k2, hk2, rfl, HHr, HLr, HBr⟩ := hrel
    by_cases hlt2 : k2 < n
    · obtain ⟨R, hR⟩ : ∃ R, rs[k2]? = some R := ⟨_, List.getElem?_eq_getElem (by rw [Hlen.out]; exact hlt2)⟩
      have HR := Lib.hid hR
      have hnr := (HHr.out k2 R (Nat.zero_le _) hR).1
      obtain ⟨pR, nR, cR⟩ := R
      simp only at hnr
      clear hR
      go_wp2_with fail
      go_loopw [4] (fun i wr => ∃ j : Nat, j ≤ nR ∧ i = .int .i64 j ∧ Hid (HoldG B0 w.heap.size wr rs 0 (ls.cntAt k2 j)) ∧ Hid (ls.LRow 31 wr gl rs) ∧ Hid (Below B0 w wr)) (fun i _ => nR - (intOf i).toNat)
      case atStart => exact ⟨0, by omega, rfl, HHr, HLr, HBr⟩
      case round =>
        clear HHr HLr HBr
        obtain ⟨j, hj, rfl, HHr, HLr, HBr⟩ := hrel
        have c1 := HLr.out.cell HR.out
        have hglr : gl < wr.heap.size := HLr.out.lt
        simp only at c1
        have hki : (k2 : Int) < (n : Int) := by omega
        have hk5 : (0 : Int) ≤ (k2 : Int) := by omega
        by_cases hltj : j < nR
        · obtain ⟨g, cs, hpR, hgB, hgM, hsb, hcs, hnc⟩ : ∃ g cs, pR = some ⟨g, 0, none⟩ ∧ B0 ≤ g ∧ g < w.heap.size ∧ ls.SB 35 wr g cs ∧ cR * 3 ≤ cs.size ∧ nR ≤ cR := by
            obtain ⟨_, h2, h3⟩ := HHr.out k2 _ (Nat.zero_le _) HR.out
            rcases h3 with ⟨_, h, _⟩ | ⟨g, cs, h1, h2', h3, h4, h5, _⟩
            · simp only at h; omega
            · exact ⟨g, cs, h1, h2', h3, h4, h5, h2⟩
          subst hpR
          have hgr : g < wr.heap.size := by have := HBr.out.size; omega
          have hat : ∀ i, i < 3 → wr.cell? ⟨g, j * 3 + i, none⟩ = some (cs[j * 3 + i]?.getD undef) := fun i hi => by
            rw [cell_in hsb, Array.getElem?_eq_getElem (by omega)]
            rfl
          have d0 := hat 0 (by omega)
          have d1 := hat 1 (by omega)
          have d2 := hat 2 (by omega)
          have e0 : wr.frozen? ⟨g, j * 3, none⟩ = false := free_in hsb
          have e1 : wr.frozen? ⟨g, j * 3 + 1, none⟩ = false := free_in hsb
          have e2 : wr.frozen? ⟨g, j * 3 + 2, none⟩ = false := free_in hsb
          rw [Nat.add_zero] at d0
          generalize cs[j * 3]?.getD undef = o0 at d0
          generalize cs[j * 3 + 1]?.getD undef = o1 at d1
          generalize cs[j * 3 + 2]?.getD undef = o2 at d2
          have HX : Hid (HoldG B0 w.heap.size (wr.setCells g (j * 3) (markG k2)) rs 0 (ls.cntAt k2 (j + 1)) ∧ ls.LRow 31 (wr.setCells g (j * 3) (markG k2)) gl rs ∧ Below B0 w (wr.setCells g (j * 3) (markG k2))) := Lib.hid
            ⟨HHr.out.mark (markG_len _) HD.out HR.out rfl hltj, HLr.out.set (by decide) hsb, ls.below_setCells hgB _ _ _ HBr.out⟩
          have hji : (j : Int) < (nR : Int) := by omega
          have hj5 : (0 : Int) ≤ (j : Int) := by omega
          clear hat hsb hcs
          go_wp2_with fail
          go_roundw
          case rel => exact ⟨j + 1, by omega, by go_num, Lib.hid HX.out.1, Lib.hid HX.out.2.1, Lib.hid HX.out.2.2⟩
          case measure => simp [intOf]; omega
        · obtain rfl : j = nR := by omega
          go_wp2_with fail
          go_roundw
          case rel => exact ⟨k2 + 1, by omega, by go_num, Lib.hid (HHr.out.next (fun S hS => by rw [HR.out] at hS; obtain rfl := Option.some.inj hS; exact Nat.le_refl _)), HLr, HBr⟩
          case measure => simp [intOf]; omega
    · obtain rfl : k2 = n := by omega
      obtain ⟨w3, hw3⟩ : ∃ w3, w3 = wr := ⟨_, rfl⟩
      have hz3 : w.heap.size ≤ w3.heap.size := by rw [hw3]; exact HBr.out.size
      have HP3 : Hid (PhG B0 w3.heap.size rs gl w w3 0 0 (.slice none 0 0) []) := Lib.hid (by
        subst hw3
        exact ⟨⟨rfl, .inl ⟨rfl, rfl⟩⟩, fun t v h => by simp at h, fun t g n c h => by simp at h, by rw [Hlen.out]; exact HHr.out.upM HBr.out.size, HLr.out, HBr.out, Nat.le_refl _⟩)
      rw [← hw3]
      clear HHr HLr HBr hw3
      have hB3 : B0 ≤ w3.heap.size := by omega
      have hgl3 : gl < w3.heap.size := by omega
      go_wp2_with fail
      go_loopw [5, 6] (fun al i wr => ∃ (k mm : Nat) (pa : Option Addr) (ca : Nat) (vals : List Value), k ≤ k2 ∧ i = .int .i64 k ∧ mm = 6 * k ∧ al = .slice pa mm ca ∧ Hid (PhG B0 w3.heap.size rs gl w wr k mm (.slice pa mm ca) vals)) (fun _ i _ => k2 - (intOf i).toNat)
      case atStart => exact ⟨0, 0, none, 0, [], by omega, rfl, rfl, rfl, HP3⟩
      case round =>
        clear HP3
        obtain ⟨k, mm, pa, ca, vals, hk, rfl, hmm, rfl, HP⟩ := hrel
        have hvl : vals.length = mm := by have := HP.out.own.1; simpa using this
        have Hvl := Lib.hid hvl
        have Hmm := Lib.hid hmm
        have hmb : mm ≤ 42 := by omega
        clear hvl hmm
        by_cases hlt : k < k2
        · obtain ⟨R, hR⟩ : ∃ R, rs[k]? = some R := ⟨_, List.getElem?_eq_getElem (by rw [Hlen.out]; exact hlt)⟩
          have c1 := HP.out.row.cell hR
          have hglr := HP.out.row.lt
          have hnr := (HP.out.rest k R (Nat.le_refl _) hR).1
          obtain ⟨h1, h2⟩ := HP.out.begin hR HD.out Hmm.out Hvl.out (by omega)
          obtain ⟨pR, nR, cR⟩ := R
          simp only at c1 hnr h2
          have HPk := Lib.hid h1
          have HGk := Lib.hid h2
          have hki : (k : Int) < (k2 : Int) := by omega
          have hk5 : (0 : Int) ≤ (k : Int) := by omega
          clear hR h1 h2
          go_wp2_with fail
          go_loopw [5, 7, 8] (fun al x i wr => ∃ (t m nx : Nat) (pa : Option Addr) (ca : Nat) (vals : List Value) (px : Option Addr) (cx : Nat), t ≤ 6 ∧ i = .int .i64 t ∧ m = 6 * k + t ∧ nx = nR + t ∧ x = .slice px nx cx ∧ al = .slice pa m ca ∧ Hid (PhG B0 w3.heap.size rs gl w wr (k + 1) m (.slice pa m ca) vals) ∧ Hid (GrG B0 w3.heap.size rs wr k vals px nx cx)) (fun _ _ i _ => 6 - (intOf i).toNat)
          case atStart => exact ⟨0, mm, nR, pa, ca, vals, pR, cR, by omega, rfl, Hmm.out, rfl, rfl, rfl, HPk, HGk⟩
          case round =>
            clear HPk HGk HP
            obtain ⟨t, m, nx, pa, ca, vals, px, cx, ht, rfl, hm, hnx, rfl, rfl, HP, HG⟩ := hrel
            have hmb2 : m ≤ 48 := by omega
            have hnb : nx ≤ 4294967310 := by omega
            have hm5 : m / 6 = k ∨ t = 6 := by omega
            have Hm := Lib.hid hm
            have Hnx := Lib.hid hnx
            have Hm5 := Lib.hid hm5
            clear hm hnx hm5
            by_cases hltt : t < 6
            · have hltt' : (t : Int) < 6 := by omega
              have hzr := HP.out.size
              focus
                go_wp2_with (at_builtin; go_must (refine wpList_append_lit rfl _ _ 54 rfl 31 i1 _ 24 Tryz.underlying54 hi hz0 hz1 hz2 rfl _ 1 (by omega) (by rfl) (by rfl) w3.heap.size _ m _ (by rfl) HP.out.own (by simp [Value.oneCell']) (by omega) (by omega) (by omega) ?_))
              intro ga' ca' w5 hown5 hgrow5 hat5 hz5 hlt5
              obtain ⟨s1, s2⟩ := HP.out.push (by decide) HG.out hown5 hgrow5 (by rcases Hm5.out with h | h <;> omega) (by omega) hgl3 hB3
              have HP5 := Lib.hid s1
              have HG5 := Lib.hid s2
              clear hown5 hgrow5 hat5 s1 s2 HP HG
              have hzr5 := HP5.out.size
              obtain ⟨W, hW⟩ : ∃ W, W = w5.alloc (.cells #[.string ⟨#[]⟩, .string ⟨#[]⟩, .int .i64 (-1 - (k : Int))] 35) := ⟨_, rfl⟩
              have hbW : Below w5.heap.size w5 W := by rw [hW]; exact (Below.refl _ _).alloc (Nat.le_refl _) _
              have hszW : W.heap.size = w5.heap.size + 1 := by rw [hW]; simp
              have hnew : ∀ (j : Nat) (u : Value), (markG k)[j]? = some u → W.cell? ((⟨w5.heap.size, 0, none⟩ : Addr).add j) = some u := fun j u hj => by
                rw [ls.addN, Nat.zero_add, hW, cell_in (heap_alloc_new w5 _)]
                show (markG k).toArray[j]? = some u
                rw [List.getElem?_toArray]
                exact hj
              have HW2 := Lib.hid hW
              have Hnew := Lib.hid hnew
              have HP2 := Lib.hid (HP5.out.below hbW hB3)
              have HG2 := Lib.hid (HG5.out.below hbW)
              clear hW hnew hbW HP5 HG5
              obtain ⟨olds, hol1, hol2, hol3, hol4⟩ := HG2.out.xs.olds markG_len (by omega)
              have Hol1 := Lib.hid hol1
              have Hol2 := Lib.hid hol2
              have Hol3 := Lib.hid hol3
              have Hol4 := Lib.hid hol4
              have hcx := HG2.out.xs.le
              clear hol1 hol2 hol3 hol4
              rcases (show nx + 1 ≤ cx ∨ cx < nx + 1 by omega) with hroom | hfull
              · obtain ⟨gx, cs, rfl, hsb, hcs⟩ : ∃ gx cs, px = some ⟨gx, 0, none⟩ ∧ ls.SB 35 W gx cs ∧ cx * 3 ≤ cs.size := by
                  rcases HG2.out.xs with ⟨_, _, h⟩ | ⟨g, cs, h1, h2, _, h3, _⟩
                  · omega
                  · exact ⟨g, cs, h1, h2, h3⟩
                have HSB := Lib.hid hsb
                have Hroom := Lib.hid hroom
                obtain ⟨r1, r2⟩ := HP2.out.room (by decide) markG_len HD.out HG2.out hroom
                have HP3 := Lib.hid r1
                have HG3 := Lib.hid r2
                clear hsb hroom r1 r2
                focus
                  go_wp2_with (at_builtin; go_must (refine wpList_append_arg _ rfl (.tmp 53) (.tmp 57) 31 rfl 35 i0 (.agg #[.string .empty, .string .empty, .int .i64 0]) 3 40 Tryz.underlying31 si sz0 sz1 sz2 rfl (by decide) gx 0 nx cx olds rfl Hol1.out ?c0 ⟨w5.heap.size, 0, none⟩ 1 1 (markG k) rfl rfl ?c1 ?c2 ?c3 (by unfold maxLen; omega) (by omega) ?room ?grow))
                case c0 => rw [← HW2.out]; exact fun j u hj => by have := Hol3.out _ rfl j u hj; rwa [ls.addN] at this
                case c1 => rw [← HW2.out]; exact Hnew.out
                case c2 => simp [markG, Value.oneCell']
                case c3 =>
                  rw [← HW2.out]
                  intro _ j hj
                  rw [markG_len] at hj
                  have hr := Hroom.out
                  rw [cell_in HSB.out, Array.getElem?_eq_getElem (by omega)]
                  exact ⟨rfl, free_in HSB.out⟩
                case grow => intro h; have := Hroom.out; omega
                case room =>
                  intro _
                  rw [← HW2.out]
                  try rw [Nat.zero_add]
                  generalize W.setCells gx (nx * 3) (markG k) = W3 at *
                  go_wp2_with fail
                  go_roundw
                  case rel => exact ⟨t + 1, m + 1, nx + 1, some ⟨ga', 0, none⟩, ca', _, _, _, by omega, by go_num, by have := Hm.out; omega, by have := Hnx.out; omega, rfl, rfl, HP3, HG3⟩
                  case measure => simp [intOf]; omega
              · focus
                  go_wp2_with (at_builtin; go_must (refine wpList_append_grows _ rfl (.tmp 53) (.tmp 57) 31 rfl 35 i0 (.agg #[.string .empty, .string .empty, .int .i64 0]) 3 40 Tryz.underlying31 si sz0 sz1 sz2 rfl (by decide) px nx cx olds rfl (fun h => Hol4.out h) Hol1.out ?d0 ⟨w5.heap.size, 0, none⟩ 1 1 (markG k) rfl rfl ?d1 ?d2 hfull (by unfold maxLen; omega) (by omega) ?dgrow))
                case d0 => rw [← HW2.out]; exact fun b hb j u hj => Hol3.out b hb j u hj
                case d1 => rw [← HW2.out]; exact Hnew.out
                case d2 => simp [markG, Value.oneCell']
                case dgrow =>
                  rw [← HW2.out]
                  intro v' w' hown hgrow
                  try rw [← hszW] at hown
                  have hown' : w'.ownsRow W.heap.size 35 3 v' (nx + 1) (olds ++ markG k) := by first | exact hown | (rw [hszW]; exact hown)
                  obtain ⟨gx, cx', rfl, hg3⟩ := HG2.out.grow markG_len (by omega) HP2.out.ents hown' (Nat.le_refl _) HP2.out.size hB3 Hol1.out Hol2.out
                  have HP3 := Lib.hid (HP2.out.below (ls.below_none hgrow) hB3)
                  have HG3 := Lib.hid hg3
                  clear hown hown' hgrow hg3
                  go_wp2_with fail
                  go_roundw
                  case rel => exact ⟨t + 1, m + 1, nx + 1, some ⟨ga', 0, none⟩, ca', _, _, _, by omega, by go_num, by have := Hm.out; omega, by have := Hnx.out; omega, rfl, rfl, HP3, HG3⟩
                  case measure => simp [intOf]; omega
            · obtain rfl : t = 6 := by omega
              go_wp2_with fail
              go_roundw
              case rel => exact ⟨k + 1, m, pa, ca, vals, by omega, by go_num, by have := Hm.out; omega, rfl, HP⟩
              case measure => simp [intOf]; omega
        · obtain rfl : k = k2 := by omega
          obtain ⟨w4, hw4⟩ : ∃ w4, w4 = wr := ⟨_, rfl⟩
          have HP4 : Hid (PhG B0 w3.heap.size rs gl w w4 k mm (.slice pa mm ca) vals) := by rw [hw4]; exact HP
          rw [← hw4]
          clear HP hw4
          have hmca : mm ≤ ca := by
            rcases HP4.out.own.2 with ⟨h, h0⟩ | ⟨g, cap, cur, h, _, _, h2, _⟩
            · cases h; omega
            · cases h; exact h2
          have HPA : Hid (0 < mm → ∃ ga, pa = some ⟨ga, 0, none⟩ ∧ ∀ (i : Nat) v, vals[i]? = some v → w4.cell? ⟨ga, i, none⟩ = some v) := Lib.hid fun h0 => by
            rcases HP4.out.own.2 with ⟨_, h⟩ | ⟨g, cap, cur, h, _⟩
            · omega
            · cases h
              refine ⟨g, rfl, fun i v hv => ?_⟩
              have := HP4.out.own.cells (g := g) rfl i v hv
              rwa [ls.addN, Nat.zero_add] at this
          go_wp2_with fail
          go_loopw [9] (fun i wr => ∃ t : Nat, t ≤ mm ∧ i = .int .i64 t ∧ wr = w4) (fun i _ => mm - (intOf i).toNat)
          case atStart => exact ⟨0, by omega, rfl, rfl⟩
          case round =>
            obtain ⟨t, ht, rfl, rfl⟩ := hrel
            by_cases hltt : t < mm
            · obtain ⟨ga, rfl, hvals⟩ := HPA.out (by omega)
              obtain ⟨v, hv⟩ : ∃ v, vals[t]? = some v := ⟨_, List.getElem?_eq_getElem (by rw [Hvl.out]; exact hltt)⟩
              have hcv := hvals t v hv
              have hent := HP4.out.ents t v hv
              obtain ⟨p, nv, cv, rfl, hnv, hncv, hall⟩ := hent
              have Hall := Lib.hid hall
              have hga : ga < wr.heap.size := World.block_lt_of_cell? _ _ hcv
              have hti : (t : Int) < (mm : Int) := by omega
              have ht5 : (0 : Int) ≤ (t : Int) := by omega
              clear hv hall hvals
              go_wp2_with fail
              go_loopw [10] (fun i wx => ∃ j : Nat, j ≤ nv ∧ i = .int .i64 j ∧ wx = wr) (fun i _ => nv - (intOf i).toNat)
              case atStart => exact ⟨0, by omega, rfl, rfl⟩
              case round =>
                obtain ⟨j, hj, rfl, rfl⟩ := hrel
                by_cases hltj : j < nv
                · obtain ⟨g, cs, rfl, hsb, hat⟩ : ∃ g cs, p = some ⟨g, 0, none⟩ ∧ ls.SB 35 wr g cs ∧ ls.At cs (j * 3) (markG (t / 6)) := by
                    rcases Hall.out with h | ⟨g, cs, h1, h2, h3⟩
                    · omega
                    · exact ⟨g, cs, h1, h2, h3 j hltj⟩
                  have hlg : g < wr.heap.size := lt_of_block hsb
                  have d2 : wr.cell? ⟨g, j * 3 + 2, none⟩ = some (.int .i64 (-1 - ((t / 6 : Nat) : Int))) := by rw [cell_in hsb]; exact hat 2 _ rfl
                  have hdiv : (t : Int).tdiv 6 = ((t / 6 : Nat) : Int) := by rw [Int.tdiv_eq_ediv_of_nonneg (by omega)]; omega
                  have hdiv2 : (t : Int) / 6 = ((t / 6 : Nat) : Int) := by omega
                  have hk64 : IntKind.i64.wrap (((t / 6 : Nat) : Int)) = ((t / 6 : Nat) : Int) := IntWalk.i64_in _ (by omega)
                  have hk5 : t / 6 ≤ 8 := by omega
                  have hji : (j : Int) < (nv : Int) := by omega
                  have hj5 : (0 : Int) ≤ (j : Int) := by omega
                  clear hsb hat
                  generalize t / 6 = t5 at *
                  go_wp2_with fail
                  go_roundw
                  case rel => exact ⟨j + 1, by omega, by go_num, by first | rfl | trivial⟩
                  case measure => simp [intOf]; omega
                · obtain rfl : j = nv := by omega
                  go_wp2_with fail
                  go_roundw
                  case rel => exact ⟨t + 1, by omega, by go_num, by first | rfl | trivial⟩
                  case measure => simp [intOf]; omega
            · obtain rfl : t = mm := by omega
              go_wp2_with fail
              go_ret
              exact ⟨rfl, HP4.out.bel⟩
end Go.Proofs.YtpfhhaonfbfheaaGreatDoor.en
/- tinderboxlaw08.awake, addsUp. Conditions: the listed variables hold what the program's text lays. -/
namespace Go.Proofs.YtpfhhaonfbfheaaGreatDoor.en
open Go.ChangeShapes Go.WideShapes Go.ChangeAt Go.RowKit gl va ls ky

def stdN : List (List UInt8) := stdK.map (·.name)
theorem std_names : ∀ x ∈ stdK, nameL x.name = true := by decide +kernel
def pairs0 : List (List UInt8) := [[72, 79, 77, 69, 61, 47, 114, 111, 111, 116], [78, 69, 84, 95, 80, 79, 82, 84, 61, 57, 48, 48, 49], [80, 79, 82, 84, 61, 49], [78, 69, 84, 95, 80, 79, 82, 84, 61]]
theorem parse0 : parseL stdN 0 pairs0 [] = ([⟨[110, 101, 116, 46, 112, 111, 114, 116], [57, 48, 48, 49], 1⟩, ⟨[110, 101, 116, 46, 112, 111, 114, 116], [], 3⟩], 0, 0) := by kernel_rfl
def pairs1 : List (List UInt8) := [[65, 61, 49], [78, 69, 84, 95, 80, 79, 82, 84, 83, 61, 49]]
theorem parse1 : parseL stdN 0 pairs1 [] = ([], 81, 1) := by kernel_rfl
def pairs2 : List (List UInt8) := [[65, 61, 49], [66]]
theorem parse2 : parseL stdN 0 pairs2 [] = ([], 80, 1) := by kernel_rfl
theorem nm1 : nmL [110, 101, 116, 46, 112, 111, 114, 116] = [78, 69, 84, 95, 80, 79, 82, 84] ∧ nmE [110, 101, 116, 46, 112, 111, 114, 116] = 0 := by decide +kernel
theorem nm2 : nmL [78, 101, 116] = [] ∧ nmE [78, 101, 116] = 1 := by decide +kernel
set_option maxRecDepth 100000 in
theorem Parse_nil (w : World) : Calls Tryz.prog 27 #[.pointer none, .slice none 0 0] w fun e w' => e = .returned (.tuple #[.slice none 0 0, .int .i64 1, .int .i64 0]) ∧ w' = w := by
  go_enter Tryz.func27, Tryz.ntmps27
  go_wp2_with fail
  go_ret3
  exact ⟨rfl, rfl⟩
set_option maxRecDepth 100000 in
theorem sumUp_any (n m : Int) (hn : 0 ≤ n) (hm : 0 ≤ m) (w : World) : Calls Tryz.prog 19 #[.int .i64 n, .int .i64 m] w fun e w' => e = .returned (.int .i64 (if 2147483647 < n ∨ 2147483647 < m then 2147483648 else n + m)) ∧ w' = w := by
  by_cases h1 : 2147483647 < n
  · rw [if_pos (.inl h1)]
    go_enter Tryz.func19, Tryz.ntmps19
    go_wp2_with fail
    go_ret
    exact ⟨rfl, rfl⟩
  · by_cases h2 : 2147483647 < m
    · rw [if_pos (.inr h2)]
      go_enter Tryz.func19, Tryz.ntmps19
      go_wp2_with fail
      go_ret
      exact ⟨rfl, rfl⟩
    · rw [if_neg (by omega)]
      have h3 : n ≤ 2147483647 := by omega
      have h4 : m ≤ 2147483647 := by omega
      go_enter Tryz.func19, Tryz.ntmps19
      go_wp2_with fail
      go_ret
      exact ⟨rfl, rfl⟩
set_option maxHeartbeats 4000000 in
set_option maxRecDepth 100000 in
theorem awoke_any (w : World) (hV : Vlo w) : Calls Tryz.prog 20 #[] w fun e w' => e = .returned (.bool true) ∧ Below w.heap.size w w' := by
  have HG := Lib.hid fun W (h : Below w.heap.size w W) => (hV.below h (Nat.le_refl _)).glo
  have HSd := Lib.hid fun W (h : Below w.heap.size w W) => Standard_any W (hV.below h (Nat.le_refl _))
  have HN1 : Hid (∀ W, Below w.heap.size w W → Calls Tryz.prog 21 #[.string ⟨#[110, 101, 116, 46, 112, 111, 114, 116]⟩] W fun e w' => e = .returned (.tuple #[.string ⟨#[78, 69, 84, 95, 80, 79, 82, 84]⟩, .int .i64 0]) ∧ Below W.heap.size W w') := Lib.hid fun W hW => by
    have h := Name_any [110, 101, 116, 46, 112, 111, 114, 116] (by decide) W (HG.out W hW)
    rw [nm1.1, nm1.2] at h
    exact h
  have HN2 : Hid (∀ W, Below w.heap.size w W → Calls Tryz.prog 21 #[.string ⟨#[78, 101, 116]⟩] W fun e w' => e = .returned (.tuple #[.string ⟨#[]⟩, .int .i64 1]) ∧ Below W.heap.size W w') := Lib.hid fun W hW => by
    have h := Name_any [78, 101, 116] (by decide) W (HG.out W hW)
    rw [nm2.1, nm2.2] at h
    exact h
  have HPa : Hid (∀ (W : World) (M b g : Nat) (cs : Array Value) (l : List (List UInt8)) (n : Nat) (o : List Gv) (er : Int) (k : Nat), Below w.heap.size w W → SetK M W b stdK → W.heap[g]? = some (.cells cs 9 (0, 0)) → cs.toList = rw.flat stC l → l.length = n → n ≤ 100 → (∀ x ∈ l, x.length ≤ 2147483647) → parseL stdN 0 l [] = (o, er, k) → Calls Tryz.prog 27 #[.pointer (some ⟨b, 0, none⟩), .slice (some ⟨g, 0, none⟩) n n] W fun e w' => (∃ v, e = .returned (.tuple #[v, .int .i64 er, .int .i64 (k : Nat)]) ∧ NewGvs W.heap.size w' v o) ∧ Below W.heap.size W w') := Lib.hid fun W M b g cs l n o er k hW hS hg hc hn hn1 hl hp => by
    have hP := rw.rw_lit stC_len hg hc
    rw [hn] at hP
    have h := Parse_any M b stdK _ n n l hn (by omega) hl std_names W hS hP (HG.out W hW)
    rw [show stdK.map (·.name) = stdN from rfl, hp] at h
    exact h
  have heq := eql_gv
  have HPn := Lib.hid Parse_nil
  clear hV HG
  go_enter Tryz.func20, Tryz.ntmps20
  go_wp2_with fail
  refine (HN1.out _ (Below.refl _ _)).mono ?_
  rintro e w1 ⟨rfl, hb1⟩
  have Hb1 := Lib.hid hb1
  clear hb1
  go_wp2_with fail
  refine (HN2.out _ Hb1.out).mono ?_
  rintro e w2 ⟨rfl, hb2⟩
  have Hb2 := Lib.hid (then_bel Hb1.out Hb1.out.size hb2)
  clear hb2
  go_wp2_with fail
  refine (HSd.out _ Hb2.out).mono ?_
  rintro e w3 ⟨⟨b, rfl, hS3⟩, hb3⟩
  have Hb3 := Lib.hid (then_bel Hb2.out Hb2.out.size hb3)
  have HS3 := Lib.hid hS3
  clear hS3 hb3
  obtain ⟨x0, hx0⟩ : ∃ x0, x0 = w3.alloc (.cells #[.string ⟨#[72, 79, 77, 69, 61, 47, 114, 111, 111, 116]⟩, .string ⟨#[78, 69, 84, 95, 80, 79, 82, 84, 61, 57, 48, 48, 49]⟩, .string ⟨#[80, 79, 82, 84, 61, 49]⟩, .string ⟨#[78, 69, 84, 95, 80, 79, 82, 84, 61]⟩] 9) := ⟨_, rfl⟩
  have Hk0 : Hid (x0.heap[w3.heap.size]? = some (.cells #[.string ⟨#[72, 79, 77, 69, 61, 47, 114, 111, 111, 116]⟩, .string ⟨#[78, 69, 84, 95, 80, 79, 82, 84, 61, 57, 48, 48, 49]⟩, .string ⟨#[80, 79, 82, 84, 61, 49]⟩, .string ⟨#[78, 69, 84, 95, 80, 79, 82, 84, 61]⟩] 9 (0, 0))) := Lib.hid (by rw [hx0]; exact heap_alloc_new w3 _)
  have hbx0 : Below w3.heap.size w3 x0 := by rw [hx0]; exact (Below.refl _ _).alloc (Nat.le_refl _) _
  have Hbx0 := Lib.hid (then_bel Hb3.out Hb3.out.size hbx0)
  have HSx0 := Lib.hid (HS3.out.later hbx0)
  have Hox0 := Lib.hid hbx0
  clear hbx0
  go_wp2_with fail
  rw [← hx0]
  refine (HPa.out x0 _ b _ _ pairs0 4 _ _ _ Hbx0.out HSx0.out Hk0.out rfl rfl (by decide) (by decide) parse0).mono ?_
  rintro e w4 ⟨⟨v0, rfl, hv0⟩, hb4⟩
  have Hb4 := Lib.hid (then_bel Hbx0.out Hbx0.out.size hb4)
  have HS4 := Lib.hid (HSx0.out.later hb4)
  have Hv0 := Lib.hid hv0
  clear hv0 hb4 hx0
  obtain ⟨x1, hx1⟩ : ∃ x1, x1 = w4.alloc (.cells #[.string ⟨#[65, 61, 49]⟩, .string ⟨#[78, 69, 84, 95, 80, 79, 82, 84, 83, 61, 49]⟩] 9) := ⟨_, rfl⟩
  have Hk1 : Hid (x1.heap[w4.heap.size]? = some (.cells #[.string ⟨#[65, 61, 49]⟩, .string ⟨#[78, 69, 84, 95, 80, 79, 82, 84, 83, 61, 49]⟩] 9 (0, 0))) := Lib.hid (by rw [hx1]; exact heap_alloc_new w4 _)
  have hbx1 : Below w4.heap.size w4 x1 := by rw [hx1]; exact (Below.refl _ _).alloc (Nat.le_refl _) _
  have Hbx1 := Lib.hid (then_bel Hb4.out Hb4.out.size hbx1)
  have HSx1 := Lib.hid (HS4.out.later hbx1)
  have Hox1 := Lib.hid hbx1
  clear hbx1
  go_wp2_with fail
  rw [← hx1]
  refine (HPa.out x1 _ b _ _ pairs1 2 _ _ _ Hbx1.out HSx1.out Hk1.out rfl rfl (by decide) (by decide) parse1).mono ?_
  rintro e w5 ⟨⟨v1, rfl, hv1⟩, hb5⟩
  have Hb5 := Lib.hid (then_bel Hbx1.out Hbx1.out.size hb5)
  have HS5 := Lib.hid (HSx1.out.later hb5)
  have Hv0x := Lib.hid ((Hv0.out.later Hox1.out).later hb5)
  clear hv1 hb5 hx1
  obtain ⟨x2, hx2⟩ : ∃ x2, x2 = w5.alloc (.cells #[.string ⟨#[65, 61, 49]⟩, .string ⟨#[66]⟩] 9) := ⟨_, rfl⟩
  have Hk2 : Hid (x2.heap[w5.heap.size]? = some (.cells #[.string ⟨#[65, 61, 49]⟩, .string ⟨#[66]⟩] 9 (0, 0))) := Lib.hid (by rw [hx2]; exact heap_alloc_new w5 _)
  have hbx2 : Below w5.heap.size w5 x2 := by rw [hx2]; exact (Below.refl _ _).alloc (Nat.le_refl _) _
  have Hbx2 := Lib.hid (then_bel Hb5.out Hb5.out.size hbx2)
  have HSx2 := Lib.hid (HS5.out.later hbx2)
  have Hox2 := Lib.hid hbx2
  clear hbx2
  go_wp2_with fail
  rw [← hx2]
  refine (HPa.out x2 _ b _ _ pairs2 2 _ _ _ Hbx2.out HSx2.out Hk2.out rfl rfl (by decide) (by decide) parse2).mono ?_
  rintro e w6 ⟨⟨v2, rfl, hv2⟩, hb6⟩
  have Hb6 := Lib.hid (then_bel Hbx2.out Hbx2.out.size hb6)
  have HS6 := Lib.hid (HSx2.out.later hb6)
  have Hv0xx := Lib.hid ((Hv0x.out.later Hox2.out).later hb6)
  clear hv2 hb6 hx2
  obtain ⟨g, c, cs, hv, hc2, _, hblk, hcs, hat⟩ : ∃ g c cs, v0 = .slice (some ⟨g, 0, none⟩) 2 c ∧ 2 ≤ c ∧ 0 ≤ g ∧ w6.heap[g]? = some (.cells cs 35 (0, 0)) ∧ c * 3 ≤ cs.size ∧ At cs 0 (rw.flat gvC [⟨[110, 101, 116, 46, 112, 111, 114, 116], [57, 48, 48, 49], 1⟩, ⟨[110, 101, 116, 46, 112, 111, 114, 116], [], 3⟩]) := by
    rcases Hv0xx.out with ⟨h, _⟩ | ⟨g, c, cs, h1, h2, h3, h4, h5, h6⟩
    · cases h
    · exact ⟨g, c, cs, h1, h2, Nat.zero_le _, h4, h5, h6⟩
  subst hv
  have d0 : w6.cell? ⟨g, 0, none⟩ = some (.string ⟨#[110, 101, 116, 46, 112, 111, 114, 116]⟩) := by rw [cell_in hblk]; exact hat 0 _ rfl
  have d1 : w6.cell? ⟨g, 1, none⟩ = some (.string ⟨#[57, 48, 48, 49]⟩) := by rw [cell_in hblk]; exact hat 1 _ rfl
  have d2 : w6.cell? ⟨g, 2, none⟩ = some (.int .i64 1) := by rw [cell_in hblk]; exact hat 2 _ rfl
  have d3 : w6.cell? ⟨g, 3, none⟩ = some (.string ⟨#[110, 101, 116, 46, 112, 111, 114, 116]⟩) := by rw [cell_in hblk]; exact hat 3 _ rfl
  have d4 : w6.cell? ⟨g, 4, none⟩ = some (.string ⟨#[]⟩) := by rw [cell_in hblk]; exact hat 4 _ rfl
  have d5 : w6.cell? ⟨g, 5, none⟩ = some (.int .i64 3) := by rw [cell_in hblk]; exact hat 5 _ rfl
  have hgl : g < w6.heap.size := lt_of_block hblk
  clear hblk hcs hat
  go_wp2_with fail
  refine (HPn.out _).mono ?_
  rintro e w7 ⟨rfl, rfl⟩
  go_wp2_with fail
  go_ret
  exact ⟨rfl, Hb6.out⟩
end Go.Proofs.YtpfhhaonfbfheaaGreatDoor.en
/- law 08: textsWeigh, keysWeigh: what weighs little has short texts. Conditions: lists of at most 9223372036854775807 elements. -/
namespace Go.Proofs.YtpfhhaonfbfheaaGreatDoor.en
open Go.ChangeShapes Go.WideShapes Go.ChangeAt Go.RowKit gl va ls ky

def addU (n m : Int) : Int := if 2147483647 < n ∨ 2147483647 < m then 2147483648 else n + m
theorem addU_nn {n m : Int} (hn : 0 ≤ n) (hm : 0 ≤ m) : 0 ≤ addU n m := by unfold addU; split <;> omega
theorem addU_bd (n m : Int) : addU n m ≤ 4294967294 := by unfold addU; split <;> omega
theorem addU_sum {n m : Int} (h : addU n m ≤ 2147483647) : addU n m = n + m ∧ n ≤ 2147483647 ∧ m ≤ 2147483647 := by
  unfold addU at h ⊢
  split at h
  · omega
  · rename_i h2
    rw [if_neg h2]
    omega
def WT (l : List (List UInt8)) (N : Int) : Prop := 0 ≤ N ∧ N ≤ 4294967294 ∧ (N ≤ 2147483647 → (l.length : Int) ≤ N ∧ ∀ x ∈ l, (x.length : Int) ≤ N)
def WTo (l : List (List UInt8)) (k : Nat) (N : Int) : Prop := N ≤ 2147483647 → (l.length : Int) ≤ N ∧ ∀ (j : Nat) (x : List UInt8), j < k → l[j]? = some x → (x.length : Int) ≤ N
theorem WTo.next {l : List (List UInt8)} {k : Nat} {N : Int} {x : List UInt8} (h : WTo l k N) (h0 : 0 ≤ N) (hx : l[k]? = some x) : WTo l (k + 1) (addU N ((B x).size : Int)) := by
  intro hN
  obtain ⟨h1, h2, h3⟩ := addU_sum hN
  rw [h1, B_size]
  obtain ⟨h4, h5⟩ := h h2
  refine ⟨by omega, fun j y hj hy => ?_⟩
  rcases Nat.lt_or_ge j k with h7 | h7
  · have := h5 j y h7 hy; omega
  · obtain rfl : j = k := by omega
    rw [hx] at hy
    obtain rfl := Option.some.inj hy
    omega
theorem WTo.done {l : List (List UInt8)} {k : Nat} {N : Int} (h : WTo l k N) (hk : l.length ≤ k ∨ 2147483647 < N) (h0 : 0 ≤ N) (h1 : N ≤ 4294967294) : WT l N := by
  refine ⟨h0, h1, fun hN => ⟨(h hN).1, fun x hx => ?_⟩⟩
  obtain ⟨j, hj⟩ := List.mem_iff_getElem?.1 hx
  exact (h hN).2 j x (by have := lt_get hj; omega) hj
set_option maxHeartbeats 4000000 in
set_option maxRecDepth 100000 in
theorem textsWeigh_any (p : Option Addr) (m c : Nat) (l : List (List UInt8)) (hm : m ≤ 9223372036854775807) (w : World) (h : Sts w (.slice p m c) l) :
    Calls Tryz.prog 24 #[.slice p m c] w fun e w' => (∃ N : Int, e = .returned (.int .i64 N) ∧ WT l N) ∧ w' = w := by
  obtain ⟨hlen, hmc, hptr⟩ := h.ptr
  have HL := Lib.hid h
  have Hlen := Lib.hid hlen
  have HP := Lib.hid hptr
  have HA : Hid (∀ (a b : Int) W, 0 ≤ a → 0 ≤ b → Calls Tryz.prog 19 #[.int .i64 a, .int .i64 b] W fun e w' => e = .returned (.int .i64 (addU a b)) ∧ w' = W) := Lib.hid fun a b W ha hb => sumUp_any a b ha hb W
  have H0 : Hid (WTo l 0 (addU 0 (m : Int))) := Lib.hid (fun hN => ⟨by have := addU_sum hN; omega, fun j x hj => by omega⟩)
  have hb0 := addU_nn (n := 0) (m := (m : Int)) (by omega) (by omega)
  have hb1 := addU_bd 0 (m : Int)
  have HA0 := Lib.hid (HA.out 0 (m : Int) w (by omega) (by omega))
  clear h hlen hptr
  generalize addU 0 (m : Int) = N0 at *
  go_enter Tryz.func24, Tryz.ntmps24
  go_wp2_with fail
  refine HA0.out.mono ?_
  rintro e w1 ⟨rfl, hw⟩
  obtain rfl : w = w1 := hw.symm
  go_wp2_with fail
  go_loopw [3, 4] (fun v i wr => ∃ (k : Nat) (N : Int), k ≤ m ∧ i = .int .i64 k ∧ v = .int .i64 N ∧ 0 ≤ N ∧ N ≤ 4294967294 ∧ Hid (WTo l k N) ∧ wr = w) (fun _ i _ => m - (intOf i).toNat)
  case atStart => exact ⟨0, _, by omega, rfl, rfl, hb0, hb1, H0, rfl⟩
  case round =>
    clear hb0 hb1 H0 HA0
    obtain ⟨k, N, hk, rfl, rfl, hN0, hN1, HW, hwr⟩ := hrel
    obtain rfl : w = wr := hwr.symm
    by_cases hlt : k < m
    · have q1 : decide ((k : Int) < (m : Int)) = true := by rw [decide_eq_true_iff]; omega
      have q2 : decide (k < m) = true := by rw [decide_eq_true_iff]; omega
      by_cases hNb : N ≤ 2147483647
      · have q3 : decide (N ≤ 2147483647) = true := by rw [decide_eq_true_iff]; omega
        obtain ⟨b, o, rfl, hbl⟩ := HP.out (by omega)
        obtain ⟨x, hx⟩ : ∃ x, l[k]? = some x := ⟨_, List.getElem?_eq_getElem (by rw [Hlen.out]; exact hlt)⟩
        have e0 := st_cell HL.out hx
        have hki : (k : Int) < (m : Int) := by omega
        have hk5 : (0 : Int) ≤ (k : Int) := by omega
        have HX := Lib.hid (HW.out.next hN0 hx)
        have HAx := Lib.hid (HA.out N ((B x).size : Int) w hN0 (by omega))
        have hn0 := addU_nn (n := N) (m := ((B x).size : Int)) hN0 (by omega)
        have hn1 := addU_bd N ((B x).size : Int)
        clear hx
        generalize addU N ((B x).size : Int) = N2 at *
        generalize B x = y1 at *
        go_wp2_with fail
        refine HAx.out.mono ?_
        rintro e w2 ⟨rfl, hw2⟩
        obtain rfl : w = w2 := hw2.symm
        go_wp2_with fail
        go_roundw
        case rel => exact ⟨k + 1, _, by omega, by go_num, rfl, hn0, hn1, HX, by first | rfl | trivial⟩
        case measure => simp [intOf]; omega
      · have q3 : decide (N ≤ 2147483647) = false := by rw [decide_eq_false_iff_not]; omega
        go_wp2_with fail
        go_ret
        exact ⟨⟨_, rfl, HW.out.done (.inr (by omega)) hN0 hN1⟩, rfl⟩
    · have q1 : decide ((k : Int) < (m : Int)) = false := by rw [decide_eq_false_iff_not]; omega
      have q2 : decide (k < m) = false := by rw [decide_eq_false_iff_not]; omega
      go_wp2_with fail
      go_ret
      exact ⟨⟨_, rfl, HW.out.done (.inl (by rw [Hlen.out]; omega)) hN0 hN1⟩, rfl⟩

def KySz (x : Ky) (N : Int) : Prop := (x.name.length : Int) ≤ N ∧ (x.dflt.length : Int) ≤ N ∧ (x.letter.length : Int) ≤ N
def WK (l : List Ky) (N : Int) : Prop := 0 ≤ N ∧ N ≤ 4294967294 ∧ (N ≤ 2147483647 → (l.length : Int) ≤ N ∧ ∀ x ∈ l, KySz x N)
def WKo (l : List Ky) (k : Nat) (N : Int) : Prop := N ≤ 2147483647 → (l.length : Int) ≤ N ∧ ∀ (j : Nat) (x : Ky), j < k → l[j]? = some x → KySz x N
theorem WKo.next {l : List Ky} {k : Nat} {N : Int} {x : Ky} (h : WKo l k N) (_h0 : 0 ≤ N) (hx : l[k]? = some x) : WKo l (k + 1) (addU N (addU ((B x.name).size : Int) (addU ((B x.dflt).size : Int) ((B x.letter).size : Int)))) := by
  intro hN
  obtain ⟨h1, h2, h3⟩ := addU_sum hN
  obtain ⟨h4, h5, h6⟩ := addU_sum h3
  obtain ⟨h7, h8, h9⟩ := addU_sum h6
  rw [h1, h4, h7, B_size, B_size, B_size]
  obtain ⟨h10, h11⟩ := h h2
  refine ⟨by omega, fun j y hj hy => ?_⟩
  rcases Nat.lt_or_ge j k with h12 | h12
  · obtain ⟨a, b, c⟩ := h11 j y h12 hy
    exact ⟨by omega, by omega, by omega⟩
  · obtain rfl : j = k := by omega
    rw [hx] at hy
    obtain rfl := Option.some.inj hy
    exact ⟨by omega, by omega, by omega⟩
theorem WKo.done {l : List Ky} {k : Nat} {N : Int} (h : WKo l k N) (hk : l.length ≤ k ∨ 2147483647 < N) (h0 : 0 ≤ N) (h1 : N ≤ 4294967294) : WK l N := by
  refine ⟨h0, h1, fun hN => ⟨(h hN).1, fun x hx => ?_⟩⟩
  obtain ⟨j, hj⟩ := List.mem_iff_getElem?.1 hx
  exact (h hN).2 j x (by have := lt_get hj; omega) hj
theorem sum_same (a b : Int) (W : World) (ha : 0 ≤ a) (hb : 0 ≤ b) : Calls Tryz.prog 19 #[.int .i64 a, .int .i64 b] W fun e w' => e = .returned (.int .i64 (addU a b)) ∧ w' = W := sumUp_any a b ha hb W
set_option maxHeartbeats 4000000 in
set_option maxRecDepth 100000 in
theorem keysWeigh_any (p : Option Addr) (m c : Nat) (l : List Ky) (hm : m ≤ 9223372036854775807) (w : World) (h : Kys w (.slice p m c) l) :
    Calls Tryz.prog 23 #[.slice p m c] w fun e w' => (∃ N : Int, e = .returned (.int .i64 N) ∧ WK l N) ∧ Below w.heap.size w w' := by
  obtain ⟨hlen, hmc, hptr⟩ := h.ptr
  have HL := Lib.hid h
  have Hlen := Lib.hid hlen
  have HP := Lib.hid hptr
  have H0 : Hid (WKo l 0 (addU 0 (m : Int))) := Lib.hid (fun hN => ⟨by have := addU_sum hN; omega, fun j x hj => by omega⟩)
  have hb0 := addU_nn (n := 0) (m := (m : Int)) (by omega) (by omega)
  have hb1 := addU_bd 0 (m : Int)
  have HA0 := Lib.hid (sum_same 0 (m : Int) w (by omega) (by omega))
  clear h hlen hptr
  generalize addU 0 (m : Int) = N0 at *
  go_enter Tryz.func23, Tryz.ntmps23
  go_wp2_with fail
  refine HA0.out.mono ?_
  rintro e w1 ⟨rfl, hw⟩
  obtain rfl : w = w1 := hw.symm
  go_wp2_with fail
  go_loopw [3, 4] (fun v i wr => ∃ (k : Nat) (N : Int), k ≤ m ∧ i = .int .i64 k ∧ v = .int .i64 N ∧ 0 ≤ N ∧ N ≤ 4294967294 ∧ Hid (WKo l k N) ∧ Hid (Below w.heap.size w wr)) (fun _ i _ => m - (intOf i).toNat)
  case atStart => exact ⟨0, _, by omega, rfl, rfl, hb0, hb1, H0, Lib.hid (Below.refl _ _)⟩
  case round =>
    clear hb0 hb1 H0 HA0
    obtain ⟨k, N, hk, rfl, rfl, hN0, hN1, HW, Hb⟩ := hrel
    by_cases hlt : k < m
    · have q1 : decide ((k : Int) < (m : Int)) = true := by rw [decide_eq_true_iff]; omega
      have q2 : decide (k < m) = true := by rw [decide_eq_true_iff]; omega
      by_cases hNb : N ≤ 2147483647
      · have q3 : decide (N ≤ 2147483647) = true := by rw [decide_eq_true_iff]; omega
        obtain ⟨b, o, rfl, hbl⟩ := HP.out (by omega)
        obtain ⟨x, hx⟩ : ∃ x, l[k]? = some x := ⟨_, List.getElem?_eq_getElem (by rw [Hlen.out]; exact hlt)⟩
        obtain ⟨e0, e1, e2, e3, e4, e5⟩ := ky_cells (HL.out.later Hb.out) hx
        have hki : (k : Int) < (m : Int) := by omega
        have hk5 : (0 : Int) ≤ (k : Int) := by omega
        have hzr := Hb.out.size
        have hbr : b < wr.heap.size := by omega
        have HX := Lib.hid (HW.out.next hN0 hx)
        have g2 := addU_nn (n := ((B x.dflt).size : Int)) (m := ((B x.letter).size : Int)) (by omega) (by omega)
        have g1 := addU_nn (n := ((B x.name).size : Int)) (by omega) g2
        have hn0 := addU_nn hN0 g1
        clear hx
        generalize B x.name = y1 at *
        generalize B x.dflt = y2 at *
        generalize B x.letter = y3 at *
        go_wp2_with fail
        go_quiet ((go_at_call 19; exact Calls.quiet_of_same (sum_same _ _ _ (by first | omega | assumption) (by first | omega | assumption))))
        go_wp2_with fail
        go_roundw
        case rel => exact ⟨k + 1, _, by omega, by go_num, rfl, hn0, addU_bd _ _, HX, Lib.hid (Hb.out.trans ((drewN_bel _ _).mono Hb.out.size))⟩
        case measure => simp [intOf]; omega
      · have q3 : decide (N ≤ 2147483647) = false := by rw [decide_eq_false_iff_not]; omega
        go_wp2_with fail
        go_ret
        exact ⟨⟨_, rfl, HW.out.done (.inr (by omega)) hN0 hN1⟩, Hb.out⟩
    · have q1 : decide ((k : Int) < (m : Int)) = false := by rw [decide_eq_false_iff_not]; omega
      have q2 : decide (k < m) = false := by rw [decide_eq_false_iff_not]; omega
      go_wp2_with fail
      go_ret
      exact ⟨⟨_, rfl, HW.out.done (.inl (by rw [Hlen.out]; omega)) hN0 hN1⟩, Hb.out⟩
end Go.Proofs.YtpfhhaonfbfheaaGreatDoor.en
/- EnvParses returns true: any pairs, of any set or of the standard one. Conditions: arguments that lie in memory as their lists; the listed variables hold what the program's text lays. -/
namespace Go.Proofs.YtpfhhaonfbfheaaGreatDoor.en
open Go.ChangeShapes Go.WideShapes Go.ChangeAt Go.RowKit gl va ls ky

theorem parse_len (names : List (List UInt8)) : ∀ (pairs : List (List UInt8)) (k : Nat) (out : List Gv), (parseL names k pairs out).1.length ≤ out.length + pairs.length
  | [], _, _ => by simp [parseL]
  | p :: r, k, out => by
    rw [parseL]
    split
    · simp
    · refine Nat.le_trans (parse_len names r _ _) ?_
      simp only [List.length_cons]; omega
    · refine Nat.le_trans (parse_len names r _ _) ?_
      simp only [List.length_cons, List.length_append, List.length_nil]; omega
theorem newG_upd {M : Nat} {w w' : World} {S : List Nat} {v : Value} {l : List Gv} (h : NewGvs M w v l) (hu : Upd S w w') (hS : ∀ k ∈ S, k < M) : NewGvs M w' v l := by
  rcases h with h | ⟨g, c, cs, h1, h2, h3, h4, h5⟩
  · exact .inl h
  · exact .inr ⟨g, c, cs, h1, h2, h3, hu.obj h4 (fun hm => by have := hS g hm; omega), h5⟩
/-- Numbers that may be. -/
def KyI (x : Ky) : Prop := (-9223372036854775808 ≤ x.kind ∧ x.kind ≤ 9223372036854775807) ∧ (-9223372036854775808 ≤ x.least ∧ x.least ≤ 9223372036854775807) ∧ (-9223372036854775808 ≤ x.most ∧ x.most ≤ 9223372036854775807)
theorem ky_ok {x : Ky} {N : Int} (h : KyI x) (hs : KySz x N) (hN : N ≤ 2147483647) : KyOk x := ⟨by have := hs.1; omega, by have := hs.2.1; omega, by have := hs.2.2; omega, h.1, h.2.1, h.2.2⟩
/-- A list that is asked for. -/
structure Ask where
  p : Option Addr
  n : Nat
  c : Nat
  l : List (List UInt8)
theorem infoSs : (Tryz.prog.info? 38).map (fun i => (i.zero, i.size, i.bytes)) = some (some (.slice none 0 0), 1, 24) := by kernel_rfl
theorem neq_same (x : ByteArray) : (x.toList != x.toList) = false := by simp

end Go.Proofs.YtpfhhaonfbfheaaGreatDoor.en
/- law 07: add, pick, texts, givens, weight; lists of given with numbers of either sign. Conditions: as stated. -/
namespace Go.Proofs.YtpfhhaonfbfheaaGreatDoor.fl
open Go.ChangeShapes Go.WideShapes Go.ChangeAt Go.RowKit gl va ls ky en

structure Gw where
  name : List UInt8
  text : List UInt8
  pos : Int
deriving DecidableEq
instance : Inhabited Gw := ⟨⟨[], [], 0⟩⟩
def gwC (g : Gw) : List Value := [.string (B g.name), .string (B g.text), .int .i64 g.pos]
theorem gwC_len : ∀ x, (gwC x).length = 3 := fun _ => rfl
theorem gwC_one : ∀ x, ∀ v ∈ gwC x, v.oneCell' = true := fun x v hv => by
  unfold gwC at hv
  simp only [List.mem_cons, List.not_mem_nil, or_false] at hv
  rcases hv with rfl | rfl | rfl <;> rfl
abbrev Gws (w : World) (v : Value) (l : List Gw) : Prop := rw.Rw gwC 3 w v l
theorem gw_cells {w : World} {b o n c : Nat} {R : List Gw} (h : Gws w (.slice (some ⟨b, o, none⟩) n c) R) {j : Nat} {x : Gw} (hx : R[j]? = some x) :
    w.cell? ⟨b, o + j * 3, none⟩ = some (.string (B x.name)) ∧ w.cell? ⟨b, o + j * 3 + 1, none⟩ = some (.string (B x.text)) ∧ w.cell? ⟨b, o + j * 3 + 2, none⟩ = some (.int .i64 x.pos) :=
  ⟨rw.Rw.cell h hx (i := 0) rfl, rw.Rw.cell h hx (i := 1) rfl, rw.Rw.cell h hx (i := 2) rfl⟩
theorem lt_len {α : Type} {l : List α} {j : Nat} {x : α} (h : l[j]? = some x) : j < l.length := (List.getElem?_eq_some_iff.1 h).1

def add7 (n m : Int) : Int := if 2147483647 - n < m then 2147483648 else n + m
theorem add7_nn {n m : Int} (hn : 0 ≤ n) (hm : 0 ≤ m) : 0 ≤ add7 n m := by unfold add7; split <;> omega
theorem add7_bd (n m : Int) : add7 n m ≤ 2147483648 := by unfold add7; split <;> omega
theorem add7_sum {n m : Int} (h : add7 n m ≤ 2147483647) : add7 n m = n + m ∧ n + m ≤ 2147483647 := by
  unfold add7 at h ⊢
  split at h
  · omega
  · rename_i h2
    rw [if_neg h2]
    omega
theorem add_any (n m : Int) (hn : 0 ≤ n) (hn2 : n ≤ 9223372036854775807) (hm : 0 ≤ m) (hm2 : m ≤ 9223372036854775807) (w : World) :
    Calls Tryz.prog 12 #[.int .i64 n, .int .i64 m] w fun e w' => e = .returned (.int .i64 (add7 n m)) ∧ w' = w := by
  by_cases h : 2147483647 - n < m
  · go_enter Tryz.func12, Tryz.ntmps12
    go_wp2_with fail
    go_ret
    exact ⟨ret_int' (by unfold add7; rw [if_pos h]), rfl⟩
  · go_enter Tryz.func12, Tryz.ntmps12
    go_wp2_with fail
    go_ret
    exact ⟨ret_int' (by unfold add7; rw [if_neg (by omega)]), rfl⟩
theorem pick2_any (c : Int) (h1 : -9223372036854775808 ≤ c) (h2 : c ≤ 9223372036854775807) (w : World) :
    Calls Tryz.prog 45 #[.int .i64 c, .int .i64 2] w fun e w' => (∃ r : Int, e = .returned (.int .i64 r) ∧ 0 ≤ r ∧ r < 2) ∧ w' = w := by
  by_cases h : c < 0
  · have k0 : 0 ≤ (-(c + 1)).tmod 2 := Int.tmod_nonneg _ (by omega)
    have k1 : (-(c + 1)).tmod 2 < 2 := Int.tmod_lt_of_pos _ (by omega)
    go_enter Tryz.func45, Tryz.ntmps45
    go_wp2_with fail
    go_ret
    rw [Int.neg_tmod] at k0 k1
    exact ⟨⟨_, rfl, k0, k1⟩, rfl⟩
  · have k0 : 0 ≤ c % 2 := Int.emod_nonneg _ (by omega)
    have k1 : c % 2 < 2 := Int.emod_lt_of_pos _ (by omega)
    go_enter Tryz.func45, Tryz.ntmps45
    go_wp2_with fail
    go_ret
    exact ⟨⟨_, rfl, k0, k1⟩, rfl⟩
set_option maxHeartbeats 2000000 in
set_option maxRecDepth 100000 in
/-- Lists of texts that are the same. -/
theorem texts7_any (p p' : Option Addr) (m c c' : Nat) (l : List (List UInt8)) (hm : m ≤ 4294967295) (w : World) (h : Sts w (.slice p m c) l) (h' : Sts w (.slice p' m c') l) :
    Calls Tryz.prog 17 #[.slice p m c, .slice p' m c'] w fun e w' => e = .returned (.bool true) ∧ ∃ q, w' = w.drewN q := by
  obtain ⟨hlen, hmc, hptr⟩ := h.ptr
  obtain ⟨_, hmc', hptr'⟩ := h'.ptr
  have HS := Lib.hid h
  have HS' := Lib.hid h'
  have Hlen := Lib.hid hlen
  have Hptr := Lib.hid hptr
  have Hptr' := Lib.hid hptr'
  clear h h' hlen hptr hptr'
  go_enter Tryz.func17, Tryz.ntmps17
  go_wp2_with fail
  go_loopw [5] (fun i wr => ∃ j q : Nat, j ≤ m ∧ i = .int .i64 j ∧ wr = w.drewN q) (fun i _ => m - (intOf i).toNat)
  case atStart => exact ⟨0, 0, by omega, rfl, rfl⟩
  case round =>
    obtain ⟨j, q, hj, rfl, hwr⟩ := hrel
    have Hq := Lib.hid hwr
    have hbq : Below w.heap.size w wr := by rw [hwr]; exact drewN_bel w q
    have Hbq := Lib.hid hbq
    clear hwr hbq
    by_cases hlt : j < m
    · obtain ⟨b, o, rfl, hbl⟩ := Hptr.out (by omega)
      obtain ⟨b', o', rfl, hbl'⟩ := Hptr'.out (by omega)
      obtain ⟨x, hx⟩ : ∃ x, l[j]? = some x := ⟨_, List.getElem?_eq_getElem (by rw [Hlen.out]; exact hlt)⟩
      have c0 := st_cell (HS.out.later Hbq.out) hx
      have d0 := st_cell (HS'.out.later Hbq.out) hx
      have hzq := Hbq.out.size
      have hbr : b < wr.heap.size := by omega
      have hbr' : b' < wr.heap.size := by omega
      have hji : (j : Int) < (m : Int) := by omega
      have hj0 : (0 : Int) ≤ (j : Int) := by omega
      clear hx
      generalize B x = nm at *
      go_wp2_with fail
      go_quiet (fail)
      rename_i nq
      go_wp2_with fail
      go_roundw
      case rel => exact ⟨j + 1, q + nq, by omega, by go_num, by rw [Hq.out, World.drewN_drewN]⟩
      case measure => simp [intOf]; omega
    · obtain rfl : j = m := by omega
      go_wp2_with fail
      go_ret
      exact ⟨rfl, q, Hq.out⟩
set_option maxHeartbeats 2000000 in
set_option maxRecDepth 100000 in
/-- Lists of given that are the same. -/
theorem givens7_any (p p' : Option Addr) (m c c' : Nat) (l : List Gw) (hm : m ≤ 4294967295) (w : World) (h : Gws w (.slice p m c) l) (h' : Gws w (.slice p' m c') l) :
    Calls Tryz.prog 18 #[.slice p m c, .slice p' m c'] w fun e w' => e = .returned (.bool true) ∧ ∃ q, w' = w.drewN q := by
  obtain ⟨hlen, hmc, hptr⟩ := h.ptr
  obtain ⟨_, hmc', hptr'⟩ := h'.ptr
  have HS := Lib.hid h
  have HS' := Lib.hid h'
  have Hlen := Lib.hid hlen
  have Hptr := Lib.hid hptr
  have Hptr' := Lib.hid hptr'
  have hneq : ∀ (a b : ByteArray) (n : Int) (w : World), (binOp .neq 35 (.agg #[.string a, .string b, .int .i64 n]) (.agg #[.string a, .string b, .int .i64 n])).run Tryz.prog w = .ok (.bool false) w := fun a b n w => by
    rw [neq_gv]
    simp
  clear h h' hlen hptr hptr'
  go_enter Tryz.func18, Tryz.ntmps18
  go_wp2_with fail
  go_loopw [5] (fun i wr => ∃ j q : Nat, j ≤ m ∧ i = .int .i64 j ∧ wr = w.drewN q) (fun i _ => m - (intOf i).toNat)
  case atStart => exact ⟨0, 0, by omega, rfl, rfl⟩
  case round =>
    obtain ⟨j, q, hj, rfl, hwr⟩ := hrel
    have Hq := Lib.hid hwr
    have hbq : Below w.heap.size w wr := by rw [hwr]; exact drewN_bel w q
    have Hbq := Lib.hid hbq
    clear hwr hbq
    by_cases hlt : j < m
    · obtain ⟨b, o, rfl, hbl⟩ := Hptr.out (by omega)
      obtain ⟨b', o', rfl, hbl'⟩ := Hptr'.out (by omega)
      obtain ⟨x, hx⟩ : ∃ x, l[j]? = some x := ⟨_, List.getElem?_eq_getElem (by rw [Hlen.out]; exact hlt)⟩
      obtain ⟨c0, c1, c2⟩ := gw_cells (HS.out.later Hbq.out) hx
      obtain ⟨d0, d1, d2⟩ := gw_cells (HS'.out.later Hbq.out) hx
      have hzq := Hbq.out.size
      have hbr : b < wr.heap.size := by omega
      have hbr' : b' < wr.heap.size := by omega
      have hji : (j : Int) < (m : Int) := by omega
      have hj0 : (0 : Int) ≤ (j : Int) := by omega
      clear hx
      generalize B x.name = nm at *
      generalize B x.text = tx at *
      generalize x.pos = ps at *
      go_wp2_with fail
      go_quiet (fail)
      rename_i nq
      go_wp2_with fail
      go_roundw
      case rel => exact ⟨j + 1, q + nq, by omega, by go_num, by rw [Hq.out, World.drewN_drewN]⟩
      case measure => simp [intOf]; omega
    · obtain rfl : j = m := by omega
      go_wp2_with fail
      go_ret
      exact ⟨rfl, q, Hq.out⟩

/-! ### Weights -/
def Kz (x : Ky) : Prop := x.name.length ≤ 9223372036854775807 ∧ x.dflt.length ≤ 9223372036854775807 ∧ x.letter.length ≤ 9223372036854775807
def Wk7 (l : List Ky) (k : Nat) (N : Int) : Prop := N ≤ 2147483647 → ∀ (j : Nat) (x : Ky), j < k → l[j]? = some x → KySz x N
theorem Wk7.next {l : List Ky} {k : Nat} {N : Int} {x : Ky} (h : Wk7 l k N) (h0 : 0 ≤ N) (hx : l[k]? = some x) : Wk7 l (k + 1) (add7 N (add7 (add7 ((B x.name).size : Int) 200) (add7 ((B x.dflt).size : Int) ((B x.letter).size : Int)))) := by
  intro hN
  have n1 := add7_nn (n := ((B x.name).size : Int)) (m := 200) (by omega) (by omega)
  have n2 := add7_nn (n := ((B x.dflt).size : Int)) (m := ((B x.letter).size : Int)) (by omega) (by omega)
  have n3 := add7_nn n1 n2
  obtain ⟨h1, h2⟩ := add7_sum hN
  obtain ⟨h3, h4⟩ := add7_sum (n := add7 ((B x.name).size : Int) 200) (m := add7 ((B x.dflt).size : Int) ((B x.letter).size : Int)) (by omega)
  obtain ⟨h5, h6⟩ := add7_sum (n := ((B x.name).size : Int)) (m := 200) (by omega)
  obtain ⟨h7, h8⟩ := add7_sum (n := ((B x.dflt).size : Int)) (m := ((B x.letter).size : Int)) (by omega)
  rw [h1, h3, h5, h7, B_size, B_size, B_size]
  rw [h3, h5, h7, B_size, B_size, B_size] at h2
  intro j y hj hy
  rcases Nat.lt_or_ge j k with h12 | h12
  · obtain ⟨a, b, c⟩ := h (by omega) j y h12 hy
    exact ⟨by omega, by omega, by omega⟩
  · obtain rfl : j = k := by omega
    rw [hx] at hy
    obtain rfl := Option.some.inj hy
    exact ⟨by omega, by omega, by omega⟩
theorem Wk7.done {l : List Ky} {k : Nat} {N : Int} (h : Wk7 l k N) (hk : l.length ≤ k ∨ 2147483647 < N) : N ≤ 2147483647 → ∀ x ∈ l, KySz x N := by
  intro hN x hx
  obtain ⟨j, hj⟩ := List.mem_iff_getElem?.1 hx
  exact h hN j x (by have := lt_len hj; omega) hj
theorem add_same (a b : Int) (W : World) (ha : 0 ≤ a) (ha2 : a ≤ 9223372036854775807) (hb : 0 ≤ b) (hb2 : b ≤ 9223372036854775807) : Calls Tryz.prog 12 #[.int .i64 a, .int .i64 b] W fun e w' => e = .returned (.int .i64 (add7 a b)) ∧ w' = W := add_any a b ha ha2 hb hb2 W
set_option maxHeartbeats 4000000 in
set_option maxRecDepth 100000 in
theorem weight7_any (p : Option Addr) (m c : Nat) (l : List Ky) (hm : m ≤ 9223372036854775807) (hz : ∀ x ∈ l, Kz x) (w : World) (h : Kys w (.slice p m c) l) :
    Calls Tryz.prog 11 #[.slice p m c, .slice none 0 0] w fun e w' => (∃ N : Int, e = .returned (.int .i64 N) ∧ 0 ≤ N ∧ N ≤ 2147483648 ∧ (N ≤ 2147483647 → ∀ x ∈ l, KySz x N)) ∧ Below w.heap.size w w' := by
  obtain ⟨hlen, hmc, hptr⟩ := h.ptr
  have HL := Lib.hid h
  have Hlen := Lib.hid hlen
  have HP := Lib.hid hptr
  have Hz := Lib.hid hz
  clear h hlen hptr hz
  go_enter Tryz.func11, Tryz.ntmps11
  go_wp2_with fail
  go_loopw [5, 6] (fun v i wr => ∃ (k : Nat) (N : Int), k ≤ m ∧ i = .int .i64 k ∧ v = .int .i64 N ∧ 0 ≤ N ∧ N ≤ 2147483648 ∧ Hid (Wk7 l k N) ∧ Hid (Below w.heap.size w wr)) (fun _ i _ => m - (intOf i).toNat)
  case atStart => exact ⟨0, 0, by omega, rfl, rfl, by omega, by omega, Lib.hid (fun _ j x hj => by omega), Lib.hid (Below.refl _ _)⟩
  case round =>
    obtain ⟨k, N, hk, rfl, rfl, hN0, hN1, HW, Hb⟩ := hrel
    by_cases hlt : k < m
    · have q1 : decide ((k : Int) < (m : Int)) = true := by rw [decide_eq_true_iff]; omega
      have q2 : decide (k < m) = true := by rw [decide_eq_true_iff]; omega
      by_cases hNb : N ≤ 2147483647
      · have q3 : decide (N ≤ 2147483647) = true := by rw [decide_eq_true_iff]; omega
        obtain ⟨b, o, rfl, hbl⟩ := HP.out (by omega)
        obtain ⟨x, hx⟩ : ∃ x, l[k]? = some x := ⟨_, List.getElem?_eq_getElem (by rw [Hlen.out]; exact hlt)⟩
        obtain ⟨e0, e1, e2, e3, e4, e5⟩ := ky_cells (HL.out.later Hb.out) hx
        obtain ⟨z0, z1, z2⟩ := Hz.out x (List.mem_of_getElem? hx)
        rw [← B_size] at z0 z1 z2
        have hki : (k : Int) < (m : Int) := by omega
        have hk5 : (0 : Int) ≤ (k : Int) := by omega
        have hzr := Hb.out.size
        have hbr : b < wr.heap.size := by omega
        have HX := Lib.hid (HW.out.next hN0 hx)
        have g1 := add7_nn (n := ((B x.name).size : Int)) (m := 200) (by omega) (by omega)
        have g2 := add7_nn (n := ((B x.dflt).size : Int)) (m := ((B x.letter).size : Int)) (by omega) (by omega)
        have g3 := add7_nn g1 g2
        have hn0 := add7_nn hN0 g3
        have f1 := add7_bd ((B x.name).size : Int) 200
        have f2 := add7_bd ((B x.dflt).size : Int) ((B x.letter).size : Int)
        have f3 := add7_bd (add7 ((B x.name).size : Int) 200) (add7 ((B x.dflt).size : Int) ((B x.letter).size : Int))
        clear hx
        generalize B x.name = y1 at *
        generalize B x.dflt = y2 at *
        generalize B x.letter = y3 at *
        go_wp2_with fail
        go_quiet ((go_at_call 12; exact Calls.quiet_of_same (add_same _ _ _ (by first | omega | assumption) (by first | omega | assumption) (by first | omega | assumption) (by first | omega | assumption))))
        go_wp2_with fail
        go_roundw
        case rel => exact ⟨k + 1, _, by omega, by go_num, rfl, hn0, add7_bd _ _, HX, Lib.hid (Hb.out.trans ((drewN_bel _ _).mono Hb.out.size))⟩
        case measure => simp [intOf]; omega
      · have q3 : decide (N ≤ 2147483647) = false := by rw [decide_eq_false_iff_not]; omega
        go_wp2_with fail
        refine wp_loop_rounds 1 ?_
        rw [rounds_succ]
        go_wp2_with fail
        go_ret
        exact ⟨⟨_, rfl, hN0, hN1, HW.out.done (.inr (by omega))⟩, Hb.out⟩
    · have q1 : decide ((k : Int) < (m : Int)) = false := by rw [decide_eq_false_iff_not]; omega
      have q2 : decide (k < m) = false := by rw [decide_eq_false_iff_not]; omega
      go_wp2_with fail
      refine wp_loop_rounds 1 ?_
      rw [rounds_succ]
      go_wp2_with fail
      go_ret
      exact ⟨⟨_, rfl, hN0, hN1, HW.out.done (.inl (by rw [Hlen.out]; omega))⟩, Hb.out⟩
end Go.Proofs.YtpfhhaonfbfheaaGreatDoor.fl
