/- package ini: the small functions (want, printable, isPart, meant, bare) and the library's trims return plain functions, or panic as said. Conditions: texts of at most 2147483647 bytes; the tables hold what the text lays. -/
import Derived.Test.YtkbamhecbfocbaaDoorInB
import Derived.Test.YtkbamhecbfocbaaDoorGlM
import Derived.Test.YtkbamhecbfocbaaDoorGlY
import Derived.Shelf.Strings.SlTrimAscii
namespace Go.Proofs.YtkbamhecbfocbaaDoor.ini
open Go.ChangeShapes Go.WideShapes Go.ChangeAt Go.RowKit gl

abbrev B (l : List UInt8) : ByteArray := ⟨l.toArray⟩
theorem B_list (l : List UInt8) : (B l).data.toList = l := by simp
theorem B_size (l : List UInt8) : (B l).size = l.length := by simp [ByteArray.size]
theorem B_of (s : ByteArray) : B s.data.toList = s := by apply ByteArray.ext; simp
theorem B_inj {a b : List UInt8} (h : B a = B b) : a = b := by have := congrArg (fun x : ByteArray => x.data.toList) h; simpa using this
theorem ba_inj {a b : ByteArray} (h : a.data.toList = b.data.toList) : a = b := by rw [← B_of a, ← B_of b, h]
theorem seq_true {a b : ByteArray} (h : a = b) : (a.toList == b.toList) = true := by rw [h]; simp
theorem seq_false {a b : ByteArray} (h : a ≠ b) : (a.toList == b.toList) = false := by
  rw [beq_eq_false_iff_ne, ByteArray.toList_eq, ByteArray.toList_eq]
  exact fun e => h (ba_inj e)
theorem seq_lit {a : ByteArray} {l : List UInt8} (h : a.data.toList = l) : (a.toList == l) = true := by rw [ByteArray.toList_eq, h]; simp
theorem seq_nlit {a : ByteArray} {l : List UInt8} (h : a.data.toList ≠ l) : (a.toList == l) = false := by
  rw [beq_eq_false_iff_ne, ByteArray.toList_eq]
  exact h
theorem then_bel {w w' w'' : World} (h : Below w.heap.size w w') (h2 : Below w'.heap.size w' w'') : Below w.heap.size w w'' := h.trans (h2.mono h.size)

theorem quoteL_ge (l : List UInt8) : l.length ≤ (quoteL l).length := by
  have h1 : ∀ c : UInt8, 1 ≤ (qB c).length := by
    intro c
    have := qB_ne c []
    rw [List.append_nil] at this
    exact List.length_pos_iff.2 this
  have h : ∀ l : List UInt8, l.length ≤ (l.flatMap qB).length := by
    intro l
    induction l with
    | nil => simp
    | cons c r ih => have := h1 c; simp only [List.flatMap_cons, List.length_append, List.length_cons]; omega
  have := h l
  simp only [quoteL, List.length_cons, List.length_append, List.length_nil]
  omega
theorem unq_two (l : List UInt8) : (unqE l = 0 ∧ quoteL (unqL l) = l) ∨ (unqE l = 20 ∧ unqL l = []) := by
  by_cases h : ∃ x, quoteL x = l
  · obtain ⟨x, hx⟩ := h
    obtain ⟨h1, h2⟩ := unqL_yes hx
    exact Or.inl ⟨h2, by rw [h1]; exact hx⟩
  · obtain ⟨h1, h2⟩ := unqL_no (l := l) fun x hx => h ⟨x, hx⟩
    exact Or.inr ⟨h2, h1⟩
theorem unq_le (l : List UInt8) : (unqL l).length ≤ l.length := by
  rcases unq_two l with ⟨_, h⟩ | ⟨_, h⟩
  · have := quoteL_ge (unqL l)
    rw [h] at this
    exact this
  · rw [h]; simp

/-! ### The library's trims -/
theorem blk_contains (b : UInt8) : ([32, 9] : List UInt8).contains b = blk b := by
  by_cases h1 : b = 32 <;> by_cases h2 : b = 9 <;> simp [blk, h1, h2]
theorem dropWhile_congr' {p q : UInt8 → Bool} (h : ∀ b, p b = q b) (l : List UInt8) : l.dropWhile p = l.dropWhile q := by rw [show p = q from funext h]
theorem trimLeftS_eq (l : List UInt8) : Lib.trimLeftS l [32, 9] = triL l := dropWhile_congr' blk_contains l
theorem trimRightS_eq (l : List UInt8) : Lib.trimRightS l [32, 9] = triR l := congrArg List.reverse (dropWhile_congr' blk_contains l.reverse)
theorem triL_triR (l : List UInt8) : triL (triR l) = triR (triL l) := by
  obtain ⟨p, hp, hb⟩ := triL_suffix l
  rcases triL_nil_or l with h | ⟨r, c, h, hd⟩
  · have hall : ∀ b ∈ l, blk b = true := by rw [h, List.append_nil] at hp; rw [hp]; exact hb
    have h2 : triR l = [] := by unfold triR; rw [dropWhile_all fun b hb => hall b (by simpa using hb)]; rfl
    rw [h, h2]; rfl
  · obtain ⟨q, hq, hc⟩ := triR_prefix (triL l)
    rcases triR_nil_or (triL l) with h2 | ⟨r2, c2, h2, hd2⟩
    · rw [h2, List.nil_append, h] at hq
      have := hc c (by rw [← hq]; simp)
      rw [hd] at this; cases this
    · have e1 : triR l = p ++ triR (triL l) := by
        conv => lhs; rw [hp, hq, ← List.append_assoc]
        rw [triR_suf hc, h2, ← List.append_assoc]
        exact triR_last hd2
      rw [e1, triL_pre hb]
      rw [h] at hq
      cases hm : triR (triL l) with
      | nil => rw [h2] at hm; simp at hm
      | cons a t =>
        rw [h] at hm
        rw [hm] at hq
        simp at hq
        exact triL_first (by rw [← hq.1]; exact hd)
theorem trimS_eq (l : List UInt8) : Lib.trimS l [32, 9] = tri l := by
  unfold Lib.trimS
  rw [trimRightS_eq, trimLeftS_eq, triL_triR]
  rfl
theorem Trim_any (s : ByteArray) (hs : s.size ≤ 2147483647) (w : World) :
    Calls Tryd.prog 73 #[.string s, .string ⟨#[32, 9]⟩] w fun e w' => e = .returned (.string (B (tri s.data.toList))) ∧ Below w.heap.size w w' := by
  refine (Any.strings_Trim_laid Tryd.lays160 (by kernel_rfl) s ⟨#[32, 9]⟩ w (by omega) (by decide) (Go.Proofs.ascii_of_all (by decide))).mono ?_
  rintro e w' ⟨rfl, hb⟩
  exact ⟨by rw [show (⟨#[32, 9]⟩ : ByteArray).data.toList = [32, 9] from rfl, trimS_eq], hb⟩
theorem TrimLeft_any (s : ByteArray) (w : World) :
    Calls Tryd.prog 81 #[.string s, .string ⟨#[32, 9]⟩] w fun e w' => e = .returned (.string (B (triL s.data.toList))) ∧ Below w.heap.size w w' := by
  refine (Any.strings_TrimLeft_laid Tryd.lays161 (by kernel_rfl) s ⟨#[32, 9]⟩ w (by decide) (Go.Proofs.ascii_of_all (by decide))).mono ?_
  rintro e w' ⟨rfl, hb⟩
  exact ⟨by rw [show (⟨#[32, 9]⟩ : ByteArray).data.toList = [32, 9] from rfl, trimLeftS_eq], hb⟩
theorem TrimRight_any (s : ByteArray) (hs : s.size ≤ 2147483647) (w : World) :
    Calls Tryd.prog 78 #[.string s, .string ⟨#[32, 9]⟩] w fun e w' => e = .returned (.string (B (triR s.data.toList))) ∧ Below w.heap.size w w' := by
  refine (Any.strings_TrimRight_laid Tryd.lays162 (by kernel_rfl) s ⟨#[32, 9]⟩ w (by omega) (by decide) (Go.Proofs.ascii_of_all (by decide))).mono ?_
  rintro e w' ⟨rfl, hb⟩
  exact ⟨by rw [show (⟨#[32, 9]⟩ : ByteArray).data.toList = [32, 9] from rfl, trimRightS_eq], hb⟩

/-! ### want -/
def wrongV : Value := .iface 70 (.agg #[])
def pan : Ending := .panicked [{ v := wrongV, recovered := false }]
theorem want_yes (w : World) : Calls Tryd.prog 79 #[.bool true] w fun e w' => e = .returned (.tuple #[]) ∧ w = w' := by
  go_enter Tryd.func79, Tryd.ntmps79
  go_wp2_with fail
  go_end0
  exact ⟨rfl, rfl⟩
theorem want_no (w : World) : Calls Tryd.prog 79 #[.bool false] w fun e w' => e = pan ∧ w = w' := by
  go_enter Tryd.func79, Tryd.ntmps79
  go_wp2_with fail
  exact ⟨rfl, rfl, rfl⟩

/-! ### printable, isPart -/
def prnTo (l : List UInt8) (k : Nat) : Prop := ∀ (j : Nat) (b : UInt8), j < k → l[j]? = some b → 32 ≤ b.toNat ∧ b.toNat ≤ 126
theorem prnTo_succ {l : List UInt8} {k : Nat} {b : UInt8} (h : prnTo l k) (hb : l[k]? = some b) (hp : 32 ≤ b.toNat ∧ b.toNat ≤ 126) : prnTo l (k + 1) := by
  intro j c hj hc
  rcases Nat.lt_or_ge j k with h1 | h1
  · exact h j c h1 hc
  · obtain rfl : j = k := by omega
    rw [hb] at hc
    obtain rfl := Option.some.inj hc
    exact hp
theorem prn_all {l : List UInt8} (h : prnTo l l.length) : prn l = true := by
  unfold prn
  rw [List.all_eq_true]
  intro b hb
  obtain ⟨j, hj⟩ := List.mem_iff_getElem?.1 hb
  exact decide_eq_true (h j b (lt_of_get hj) hj)
theorem prn_bad {l : List UInt8} {k : Nat} {b : UInt8} (hb : l[k]? = some b) (hp : ¬ (32 ≤ b.toNat ∧ b.toNat ≤ 126)) : prn l = false := by
  unfold prn
  rw [List.all_eq_false]
  exact ⟨b, List.mem_of_getElem? hb, by simpa using hp⟩

set_option maxHeartbeats 1000000 in
theorem printable_any (s : ByteArray) (hs : s.size ≤ 2147483647) (w : World) :
    Calls Tryd.prog 72 #[.string s] w fun e w' => e = .returned (.bool (prn s.data.toList)) ∧ w = w' := by
  go_enter Tryd.func72, Tryd.ntmps72
  go_wp2_with fail
  go_loop [6] (fun i => ∃ k : Nat, k ≤ s.size ∧ i = .int .i64 k ∧ prnTo s.data.toList k) (fun i => s.size - (intOf i).toNat)
  case atStart => exact ⟨0, by omega, rfl, fun j b h => by omega⟩
  case round =>
    obtain ⟨k, hk, rfl, hto⟩ := hrel
    have Hto := Lib.hid hto
    clear hto
    by_cases hlt : k < s.size
    · obtain ⟨b, hb, hbk, hb0, hb1⟩ := byteAt s k hlt
      have hbk' := hbk hlt
      have Hb := Lib.hid hb
      clear hb
      rcases (show b.toNat < 32 ∨ (32 ≤ b.toNat ∧ b.toNat ≤ 126) ∨ 126 < b.toNat by omega) with h | ⟨h, h'⟩ | h
      · go_wp2_with fail
        go_ret
        exact ⟨ret_bool (prn_bad Hb.out (by omega)), rfl⟩
      · go_wp2_with fail
        go_round
        case rel => exact ⟨k + 1, by omega, by go_num, prnTo_succ Hto.out Hb.out ⟨h, h'⟩⟩
        case measure => simp [intOf]; omega
      · go_wp2_with fail
        go_ret
        exact ⟨ret_bool (prn_bad Hb.out (by omega)), rfl⟩
    · have Hall : Hid (prn s.data.toList = true) := Lib.hid (prn_all (by
        have : s.data.toList.length = k := by simp; omega
        rw [this]; exact Hto.out))
      go_wp2_with fail
      go_ret
      exact ⟨ret_bool Hall.out, rfl⟩

set_option maxHeartbeats 2000000 in
theorem isPart_any (s : ByteArray) (hs : s.size ≤ 2147483647) (w : World) (hG : Glo w) :
    Calls Tryd.prog 110 #[.string s] w fun e w' => e = .returned (.bool (partL s.data.toList)) ∧ Below w.heap.size w w' := by
  have HG := Lib.hid hG
  clear hG
  go_enter Tryd.func110, Tryd.ntmps110
  go_wp2_with fail
  go_loopw [7] (fun i wr => ∃ k : Nat, k ≤ s.size ∧ i = .int .i64 k ∧ partTo s.data.toList k ∧ Below w.heap.size w wr) (fun i _ => s.size - (intOf i).toNat)
  case atStart => exact ⟨0, by omega, rfl, partTo_zero _, Below.refl _ _⟩
  case round =>
    obtain ⟨k, hk, rfl, hto, hbw⟩ := hrel
    have Hto := Lib.hid hto
    have Hbw := Lib.hid hbw
    clear hto hbw
    by_cases hlt : k < s.size
    · obtain ⟨b, hb, hbk, hb0, hb1⟩ := byteAt s k hlt
      have hbk' := hbk hlt
      have Hb := Lib.hid hb
      clear hb
      have HC := Lib.hid (Class_any (b.toNat : Int) wr (HG.out.below Hbw.out (Nat.le_refl _)))
      by_cases h1 : cls b.toNat = 1
      · have hd1 : (cls (b.toNat : Int) != 1) = false := by rw [h1]; rfl
        have Hn := Lib.hid (partTo_succ Hto.out Hb.out (.inl h1))
        clear h1
        generalize cls (b.toNat : Int) = cb at *
        go_wp2_with fail
        refine HC.out.mono ?_
        rintro e w1 ⟨rfl, hb⟩
        have Hb1 := Lib.hid (then_bel Hbw.out hb)
        clear hb
        go_wp2_with fail
        go_roundw
        case rel => exact ⟨k + 1, by omega, by go_num, Hn.out, Hb1.out⟩
        case measure => simp [intOf]; omega
      · have hd1 : (cls (b.toNat : Int) != 1) = true := by simpa using h1
        have H1 := Lib.hid h1
        clear h1
        by_cases hk0 : k = 0
        · subst hk0
          have Hp : Hid (partL s.data.toList = false) := Lib.hid (part_bad Hb.out H1.out (.inl rfl))
          generalize cls (b.toNat : Int) = cb at *
          go_wp2_with fail
          refine HC.out.mono ?_
          rintro e w1 ⟨rfl, hb⟩
          have Hb1 := Lib.hid (then_bel Hbw.out hb)
          clear hb
          go_wp2_with fail
          go_ret
          exact ⟨ret_bool Hp.out, Hb1.out⟩
        · have hk1 : ((k : Int) == 0) = false := by simpa using hk0
          by_cases h3 : cls b.toNat = 3
          · have hd3 : (cls (b.toNat : Int) != 3) = false := by rw [h3]; rfl
            have Hn := Lib.hid (partTo_succ Hto.out Hb.out (.inr ⟨hk0, h3⟩))
            clear h3
            generalize cls (b.toNat : Int) = cb at *
            go_wp2_with fail
            refine HC.out.mono ?_
            rintro e w1 ⟨rfl, hb⟩
            have Hb1 := Lib.hid (then_bel Hbw.out hb)
            clear hb
            go_wp2_with fail
            go_roundw
            case rel => exact ⟨k + 1, by omega, by go_num, Hn.out, Hb1.out⟩
            case measure => simp [intOf]; omega
          · have hd3 : (cls (b.toNat : Int) != 3) = true := by simpa using h3
            have Hp : Hid (partL s.data.toList = false) := Lib.hid (part_bad Hb.out H1.out (.inr h3))
            clear h3
            generalize cls (b.toNat : Int) = cb at *
            go_wp2_with fail
            refine HC.out.mono ?_
            rintro e w1 ⟨rfl, hb⟩
            have Hb1 := Lib.hid (then_bel Hbw.out hb)
            clear hb
            go_wp2_with fail
            go_ret
            exact ⟨ret_bool Hp.out, Hb1.out⟩
    · obtain rfl : k = s.size := by omega
      have Hp : Hid (partL s.data.toList = !s.data.toList.isEmpty) := Lib.hid (part_end (by rw [toList_len]; exact Hto.out))
      go_wp2_with fail
      go_ret
      exact ⟨ret_bool (by rw [Hp.out, ByteArray.toList_eq]), Hbw.out⟩

/-! ### meant -/
/-- What a function hands back that may give up. -/
def TOut (o : Option (List UInt8)) (e : Ending) : Prop := match o with
  | some t => e = .returned (.string (B t))
  | none => e = pan
theorem hasPrefix_34 (s : ByteArray) : Lib.hasPrefix s.data.toList [34] = decide (s.data.toList.head? = some 34) := by
  cases h : s.data.toList with
  | nil => rfl
  | cons c r =>
    simp only [Lib.hasPrefix, List.isPrefixOf, List.head?_cons, Option.some.injEq]
    by_cases hc : c = 34
    · subst hc; simp
    · simp [hc]; exact fun e => hc e.symm
theorem meant_some {t : List UInt8} {u : List UInt8} (h : unqO t = some u) (hl : u.length ≤ 200) : meantL t = some u := by unfold meantL; rw [h]; exact if_pos hl
theorem meant_long {t : List UInt8} {u : List UInt8} (h : unqO t = some u) (hl : ¬ u.length ≤ 200) : meantL t = none := by unfold meantL; rw [h]; exact if_neg hl
theorem meant_none {t : List UInt8} (h : unqO t = none) : meantL t = none := by unfold meantL; rw [h]
set_option maxHeartbeats 4000000 in
theorem meant_any (s : ByteArray) (hs : s.size ≤ 536870911) (w : World) :
    Calls Tryd.prog 80 #[.string s] w fun e w' => TOut (meantL s.data.toList) e ∧ Below w.heap.size w w' := by
  have HP := Lib.hid (Tryd.strings_HasPrefix s ⟨#[34]⟩ w)
  by_cases h34 : s.data.toList.head? = some 34
  · have hd : Lib.hasPrefix s.data.toList [34] = true := by rw [hasPrefix_34, decide_eq_true h34]
    have HU := Lib.hid (Unquote_any s hs w)
    rcases unq_two s.data.toList with ⟨he, _⟩ | ⟨he, _⟩
    · have Ho : Hid (unqO s.data.toList = some (unqL s.data.toList)) := Lib.hid (by unfold unqO; rw [if_pos h34, if_pos he])
      have He := Lib.hid he
      have hle := unq_le s.data.toList
      obtain ⟨u, hu⟩ : ∃ u : ByteArray, u = B (unqL s.data.toList) := ⟨_, rfl⟩
      have hus : u.size = (unqL s.data.toList).length := by rw [hu, B_size]
      have HU2 : Hid (unqV s.data.toList = .tuple #[.string u, .int .i64 0]) := Lib.hid (by unfold unqV; rw [He.out, hu])
      have hsl := toList_len s
      have hub : u.size ≤ 536870911 := by omega
      have Hu := Lib.hid hu
      by_cases hl : u.size ≤ 200
      · have Hr : Hid (TOut (meantL s.data.toList) (.returned (.string u))) := Lib.hid (by rw [meant_some Ho.out (by omega)]; show _ = _; rw [Hu.out])
        have hd2 : decide ((u.size : Int) ≤ 200) = true := by simpa using by omega
        clear h34 he hu hus hle hsl Ho He Hu
        go_enter Tryd.func80, Tryd.ntmps80
        go_wp2_with fail
        refine HP.out.mono ?_
        rintro e w1 ⟨rfl, rfl⟩
        rw [hd]
        go_wp2_with fail
        refine HU.out.mono ?_
        rintro e w1 ⟨rfl, hb⟩
        rw [HU2.out]
        have Hb := Lib.hid hb
        clear hb hd
        go_wp2_with fail
        refine (want_yes _).mono ?_
        rintro e w1 ⟨rfl, rfl⟩
        go_wp2_with fail
        refine (want_yes _).mono ?_
        rintro e w1 ⟨rfl, rfl⟩
        go_wp2_with fail
        go_ret
        exact ⟨Hr.out, Hb.out⟩
      · have Hr : Hid (TOut (meantL s.data.toList) pan) := Lib.hid (by rw [meant_long Ho.out (by omega)]; exact rfl)
        have hd2 : decide ((u.size : Int) ≤ 200) = false := by simpa using by omega
        clear h34 he hu hus hle hsl Ho He Hu
        go_enter Tryd.func80, Tryd.ntmps80
        go_wp2_with fail
        refine HP.out.mono ?_
        rintro e w1 ⟨rfl, rfl⟩
        rw [hd]
        go_wp2_with fail
        refine HU.out.mono ?_
        rintro e w1 ⟨rfl, hb⟩
        rw [HU2.out]
        have Hb := Lib.hid hb
        clear hb hd
        go_wp2_with fail
        refine (want_yes _).mono ?_
        rintro e w1 ⟨rfl, rfl⟩
        go_wp2_with fail
        refine (want_no _).mono ?_
        rintro e w1 ⟨rfl, rfl⟩
        unfold pan
        go_wp2_with fail
        exact ⟨rfl, Hr.out, Hb.out⟩
    · have Hr : Hid (TOut (meantL s.data.toList) pan) := Lib.hid (by rw [meant_none (by unfold unqO; rw [if_pos h34, if_neg (by omega)])]; exact rfl)
      have HU2 : Hid (∃ u, unqV s.data.toList = .tuple #[.string u, .int .i64 20]) := Lib.hid ⟨_, by unfold unqV; rw [he]⟩
      clear h34 he
      obtain ⟨u, hu⟩ := HU2.out
      have HU3 := Lib.hid hu
      clear hu HU2
      go_enter Tryd.func80, Tryd.ntmps80
      go_wp2_with fail
      refine HP.out.mono ?_
      rintro e w1 ⟨rfl, rfl⟩
      rw [hd]
      go_wp2_with fail
      refine HU.out.mono ?_
      rintro e w1 ⟨rfl, hb⟩
      rw [HU3.out]
      have Hb := Lib.hid hb
      clear hb hd
      go_wp2_with fail
      refine (want_no _).mono ?_
      rintro e w1 ⟨rfl, rfl⟩
      unfold pan
      go_wp2_with fail
      exact ⟨rfl, Hr.out, Hb.out⟩
  · have hd : Lib.hasPrefix s.data.toList [34] = false := by rw [hasPrefix_34, decide_eq_false h34]
    have HR := Lib.hid (printable_any s (by omega) w)
    cases hp : prn s.data.toList with
    | true =>
      have Ho : Hid (unqO s.data.toList = some s.data.toList) := Lib.hid (by unfold unqO; rw [if_neg h34, if_pos hp])
      have hsl := toList_len s
      have Hp := Lib.hid hp
      by_cases hl : s.size ≤ 200
      · have Hr : Hid (TOut (meantL s.data.toList) (.returned (.string s))) := Lib.hid (by rw [meant_some Ho.out (by omega)]; show _ = _; rw [B_of])
        have hd2 : decide ((s.size : Int) ≤ 200) = true := by simpa using by omega
        clear h34 hp hsl Ho
        go_enter Tryd.func80, Tryd.ntmps80
        go_wp2_with fail
        refine HP.out.mono ?_
        rintro e w1 ⟨rfl, rfl⟩
        rw [hd]
        go_wp2_with fail
        refine HR.out.mono ?_
        rintro e w1 ⟨rfl, rfl⟩
        rw [Hp.out]
        clear hd
        go_wp2_with fail
        refine (want_yes _).mono ?_
        rintro e w1 ⟨rfl, rfl⟩
        go_wp2_with fail
        refine (want_yes _).mono ?_
        rintro e w1 ⟨rfl, rfl⟩
        go_wp2_with fail
        go_ret
        exact ⟨Hr.out, Below.refl _ _⟩
      · have Hr : Hid (TOut (meantL s.data.toList) pan) := Lib.hid (by rw [meant_long Ho.out (by omega)]; exact rfl)
        have hd2 : decide ((s.size : Int) ≤ 200) = false := by simpa using by omega
        clear h34 hp hsl Ho
        go_enter Tryd.func80, Tryd.ntmps80
        go_wp2_with fail
        refine HP.out.mono ?_
        rintro e w1 ⟨rfl, rfl⟩
        rw [hd]
        go_wp2_with fail
        refine HR.out.mono ?_
        rintro e w1 ⟨rfl, rfl⟩
        rw [Hp.out]
        clear hd
        go_wp2_with fail
        refine (want_yes _).mono ?_
        rintro e w1 ⟨rfl, rfl⟩
        go_wp2_with fail
        refine (want_no _).mono ?_
        rintro e w1 ⟨rfl, rfl⟩
        unfold pan
        go_wp2_with fail
        exact ⟨rfl, Hr.out, Below.refl _ _⟩
    | false =>
      have Hr : Hid (TOut (meantL s.data.toList) pan) := Lib.hid (by rw [meant_none (by unfold unqO; rw [if_neg h34, if_neg (by rw [hp]; simp)])]; exact rfl)
      have Hp := Lib.hid hp
      clear h34 hp
      go_enter Tryd.func80, Tryd.ntmps80
      go_wp2_with fail
      refine HP.out.mono ?_
      rintro e w1 ⟨rfl, rfl⟩
      rw [hd]
      go_wp2_with fail
      refine HR.out.mono ?_
      rintro e w1 ⟨rfl, rfl⟩
      rw [Hp.out]
      clear hd
      go_wp2_with fail
      refine (want_no _).mono ?_
      rintro e w1 ⟨rfl, rfl⟩
      unfold pan
      go_wp2_with fail
      exact ⟨rfl, Hr.out, Below.refl _ _⟩
end Go.Proofs.YtkbamhecbfocbaaDoor.ini
