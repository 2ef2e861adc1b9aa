/- value.number, cut, parseNumber, parseBool, parseText, parseWords, Parse return plain functions. Conditions: the listed variables hold what the program's text lays; the text is no longer than 2147483647 bytes. -/
import Derived.Test.YtpfhhaonfbfheaaGreatDoorVaC
import Derived.Test.YtpfhhaonfbfheaaGreatDoorGlW
import Derived.WalkSmall
import Derived.Lib.SmallJoins
import Derived.Lib.AppendIntMem
namespace Go.Proofs.YtpfhhaonfbfheaaGreatDoor.va
open Go.ChangeShapes Go.WideShapes Go.ChangeAt Go.RowKit gl

/-- The listed variables lie in the world. -/
structure Vlo (w : World) : Prop where
  glo : Glo w
  units : w.rangeAt 4 0 unitsL
  pow : Lib.TabIs Tryz.prog w "internal/strconv.uint64pow10" .u64 Lib.pow10Tab
  rng : ∃ tp p, w.var? Tryz.prog "strconv.ErrRange" = some #[.iface tp p]
theorem gPow : Tryz.prog.globalNamed "internal/strconv.uint64pow10" = some 9 := by kernel_rfl
theorem gRng : Tryz.prog.globalNamed "strconv.ErrRange" = some 8 := by kernel_rfl
theorem var_lt {w : World} {n : String} {g : Nat} {cs : Array Value} (hg : Tryz.prog.globalNamed n = some g) (h : w.var? Tryz.prog n = some cs) : g < w.heap.size := by
  unfold World.var? at h
  simp only [hg, Option.bind_some] at h
  rcases Nat.lt_or_ge g w.heap.size with h1 | h1
  · exact h1
  · rw [Array.getElem?_eq_none h1] at h
    simp at h
theorem Vlo.below {w w' : World} {b : Nat} (h : Vlo w) (hb : Below b w w') (hB : w.heap.size ≤ b) : Vlo w' := by
  obtain ⟨h1, h2, h3, tp, p, h4⟩ := h
  have hu : 4 < w.heap.size := World.block_lt_of_cell? _ _ (h2 0 _ rfl)
  have hp := var_lt gPow h3
  have hr := var_lt gRng h4
  refine ⟨h1.below hb hB, fun j v hv => ?_, var?_below hb gPow (by omega) h3, tp, p, var?_below hb gRng (by omega) h4⟩
  rw [hb.cell (p := ⟨4, 0 + j, none⟩) (by show 4 < b; omega)]
  exact h2 j v hv

theorem num_cases (l : List UInt8) (h : l.all isDig = true) : (l = [] ∧ num l = none) ∨ (∃ r, l = 48 :: r ∧ r ≠ [] ∧ num l = none) ∨ (l ≠ [] ∧ (∀ r, l = 48 :: r → r = []) ∧ num l = some (min (decN 0 l) 4611686018427387905)) := by
  cases l with
  | nil => exact .inl ⟨rfl, rfl⟩
  | cons c r =>
    right
    by_cases hc : c.toNat = 48
    · have : c = 48 := UInt8.toNat_inj.1 hc
      subst this
      by_cases hr : r = []
      · exact .inr ⟨by simp, fun r' e => by simp at e; rw [← e]; exact hr, num_some h (by subst hr; rfl)⟩
      · exact .inl ⟨r, rfl, hr, num_unshaped (by cases r with | nil => exact absurd rfl hr | cons => rfl)⟩
    · refine .inr ⟨by simp, fun r' e => ?_, num_some h (by simp [shaped, hc])⟩
      simp at e
      rw [e.1] at hc
      exact absurd rfl hc
def okNum (o : Option Nat) (n : Int) (b : Bool) : Prop := b = o.isSome ∧ ∀ m, o = some m → n = m
theorem okNum_none {o : Option Nat} (h : o = none) (n : Int) : okNum o n false := by subst h; exact ⟨rfl, fun m e => by cases e⟩
theorem okNum_some {o : Option Nat} {m : Nat} (h : o = some m) : okNum o m true := by subst h; exact ⟨rfl, fun k e => by cases e; rfl⟩

def NumOut (l : List UInt8) (e : Ending) : Prop := ∃ (n : Int) (b : Bool), e = .returned (.tuple #[.int .i64 n, .bool b]) ∧ okNum (num l) n b ∧ 0 ≤ n ∧ n ≤ 4611686018427387905

set_option maxHeartbeats 4000000 in
theorem number_any (s : ByteArray) (hs : s.size ≤ 2147483647) (w : World) (hV : Vlo w) :
    Calls Tryz.prog 115 #[.string s] w fun e w' => NumOut s.data.toList e ∧ Below w.heap.size w w' := by
  have HV := Lib.hid hV
  clear hV
  have hsz : s.data.toList.length = s.size := by simp
  go_enter Tryz.func115, Tryz.ntmps115
  go_wp2_with fail
  go_loopg [] s.size (fun gf wr => ∃ pos : Nat, pos ≤ s.size ∧ wr.heap[w.heap.size]? = some (.stringIter s pos) ∧ Below w.heap.size w wr ∧ goodTo isDig s.data.toList pos ∧ s.size ≤ pos + gf)
  case atStart => exact ⟨0, by omega, World.iter_heap w s 0, (Below.refl _ w).alloc (Nat.le_refl _) _, fun j b h => by omega, by omega⟩
  case round =>
    obtain ⟨pos, hps, hit, hbw, hto, hfu⟩ := hrel
    by_cases hp : pos < s.size
    · obtain ⟨g', rfl⟩ : ∃ g', gk = g' + 1 := ⟨gk - 1, by omega⟩
      have hnx : ∀ ty, (Instr.next (.pointer (some ⟨w.heap.size, 0, none⟩)) true ty).run Tryz.prog wr = _ := fun ty => Lib.run_next_any_at wr w.heap.size s pos ty hit hp
      obtain ⟨b, hb, hc⟩ := rune_at s pos hp
      have hit2 := Lib.iterAt_heap wr w.heap.size s pos (pos + (Utf8.decode s pos).2) hit
      have hbw2 := Lib.below_iterAt hbw (k := w.heap.size) (Nat.le_refl _) s (pos + (Utf8.decode s pos).2)
      rcases hc with ⟨h128, he⟩ | ⟨h128, hr, hr2⟩
      · rw [he] at hnx hit2 hbw2
        obtain ⟨W, hW⟩ : ∃ W, wr.iterAt w.heap.size s (pos + (b.toNat, 1).2) = W := ⟨_, rfl⟩
        rw [hW] at hnx hit2 hbw2
        have Hto := Lib.hid hto
        have Hb := Lib.hid hb
        clear hto hb he hW
        rcases (show b.toNat < 48 ∨ (48 ≤ b.toNat ∧ b.toNat ≤ 57) ∨ 57 < b.toNat by omega) with h | ⟨h, h'⟩ | h
        · go_wp2_with fail
          go_ret2
          exact ⟨⟨_, _, rfl, okNum_none (num_bad (all_bad Hb.out (dig_no (by omega)))) _, by omega, by omega⟩, hbw2⟩
        · go_wp2_with fail
          go_roundg g'
          case measure => omega
          case rel => exact ⟨pos + 1, by omega, hit2, hbw2, goodTo_succ Hto.out Hb.out (dig_yes h h'), by omega⟩
        · go_wp2_with fail
          go_ret2
          exact ⟨⟨_, _, rfl, okNum_none (num_bad (all_bad Hb.out (dig_no (by omega)))) _, by omega, by omega⟩, hbw2⟩
      · have Hb := Lib.hid hb
        clear hb hto
        obtain ⟨W, hW⟩ : ∃ W, wr.iterAt w.heap.size s (pos + (Utf8.decode s pos).2) = W := ⟨_, rfl⟩
        obtain ⟨R, hR⟩ : ∃ R, (Utf8.decode s pos).1 = R := ⟨_, rfl⟩
        rw [hW] at hnx hit2 hbw2
        rw [hR] at hnx hr hr2
        clear hW hR
        go_wp2_with fail
        go_ret2
        exact ⟨⟨_, _, rfl, okNum_none (num_bad (all_bad Hb.out (dig_no (by omega)))) _, by omega, by omega⟩, hbw2⟩
    · have hnx : ∀ ty, (Instr.next (.pointer (some ⟨w.heap.size, 0, none⟩)) true ty).run Tryz.prog wr = _ := fun ty => Lib.run_next_end_at wr w.heap.size s pos ty hit hp
      have hall : s.data.toList.all isDig = true := all_good (by
        obtain rfl : pos = s.size := by omega
        simpa using hto)
      have HVr := Lib.hid (HV.out.below hbw (Nat.le_refl _))
      have Hbw := Lib.hid hbw
      have hszr := hbw.size
      clear hto hbw
      rcases num_cases _ hall with ⟨h0, hn⟩ | ⟨r, h0, hr, hn⟩ | ⟨h0, h48, hn⟩
      · have he : s.toList.isEmpty = true := by rw [ByteArray.toList_eq, h0]; rfl
        have Hn := Lib.hid hn
        clear h0 hn hall
        go_wp2_with fail
        go_ret2
        exact ⟨⟨_, _, rfl, okNum_none Hn.out _, by omega, by omega⟩, Hbw.out⟩
      · have he : s.toList.isEmpty = false := by rw [ByteArray.toList_eq, h0]; rfl
        have h2 : 1 < s.size := by
          have := List.length_pos_iff.2 hr
          rw [h0] at hsz
          simp at hsz
          omega
        obtain ⟨b, hb, hbk, _, _⟩ := byteAt s 0 (by omega)
        rw [h0] at hb
        obtain rfl : b = 48 := by simpa using hb.symm
        have Hn := Lib.hid hn
        clear h0 hn hall hb
        go_wp2_with fail
        go_ret2
        exact ⟨⟨_, _, rfl, okNum_none Hn.out _, by omega, by omega⟩, Hbw.out⟩
      · have he : s.toList.isEmpty = false := by
          rw [ByteArray.toList_eq]
          cases hl : s.data.toList with
          | nil => exact absurd hl h0
          | cons => rfl
        have hat := atoi_dec hall h0
        have Hn := Lib.hid hn
        have Hcont : Hid (∀ _w1 : World, Calls Tryz.prog 147 #[.string s] wr fun e w' => Below wr.heap.size wr w' ∧ ((∃ v : Nat, v ≤ 4611686018427387904 ∧ num s.data.toList = some v ∧ e = .returned (.tuple #[.int .i64 v, .nilIface])) ∨
            (∃ v : Nat, 4611686018427387904 < v ∧ num s.data.toList = some 4611686018427387905 ∧ e = .returned (.tuple #[.int .i64 v, .nilIface])) ∨
            (∃ (v : Int) (tp : TypeId) (q : Value), num s.data.toList = some 4611686018427387905 ∧ e = .returned (.tuple #[.int .i64 v, .iface tp q])))) := Lib.hid (fun _ => by
          by_cases hb : decN 0 s.data.toList < 9223372036854775808
          · rw [if_pos hb] at hat
            refine (Tryz.strconv_Atoi_ok s (by omega) _ hat wr).mono ?_
            rintro e w' ⟨rfl, hw'⟩
            have hbel : Below wr.heap.size wr w' := by
              rcases hw' with rfl | ⟨t, rfl⟩
              · exact Below.refl _ _
              · exact Joins.below_bytesWorld _ _ _ _ (Nat.le_refl _)
            refine ⟨hbel, ?_⟩
            by_cases hle : decN 0 s.data.toList ≤ 4611686018427387904
            · exact .inl ⟨_, hle, by rw [Hn.out, Nat.min_eq_left (by omega)], rfl⟩
            · exact .inr (.inl ⟨_, by omega, by rw [Hn.out, Nat.min_eq_right (by omega)], rfl⟩)
          · rw [if_neg hb] at hat
            obtain ⟨tp, p, hvar⟩ := HVr.out.rng
            refine (Tryz.strconv_Atoi_range_var s (by omega) hat tp p wr hvar).mono ?_
            rintro e w' ⟨N, rfl, _, _, hbel⟩
            exact ⟨hbel, .inr (.inr ⟨_, _, _, by rw [Hn.out, Nat.min_eq_right (by omega)], rfl⟩)⟩)
        clear hat hn hall
        by_cases h1 : 1 < s.size
        · obtain ⟨b, hb, hbk, _, _⟩ := byteAt s 0 (by omega)
          have hb48 : ((b.toNat : Int) == 48) = false := by
            simp only [beq_eq_false_iff_ne]
            intro e
            have : b = 48 := UInt8.toNat_inj.1 (by show b.toNat = 48; omega)
            subst this
            cases hl : s.data.toList with
            | nil => exact h0 hl
            | cons c r =>
              rw [hl] at hb hsz
              simp at hb
              subst hb
              have := h48 r hl
              subst this
              simp at hsz
              omega
          clear hb h48 h0
          go_wp2_with fail
          refine (Hcont.out wr).mono ?_
          rintro e w2 ⟨hb2, ⟨v, hv, hn, rfl⟩ | ⟨v, hv, hn, rfl⟩ | ⟨v, tp, q, hn, rfl⟩⟩
          all_goals
            have HN := Lib.hid hn
            clear hn
            go_wp2_with fail
            go_ret2
          · exact ⟨⟨_, _, rfl, okNum_some HN.out, by omega, by omega⟩, Hbw.out.trans (hb2.mono hszr)⟩
          · exact ⟨⟨_, _, rfl, okNum_some HN.out, by omega, by omega⟩, Hbw.out.trans (hb2.mono hszr)⟩
          · exact ⟨⟨_, _, rfl, okNum_some HN.out, by omega, by omega⟩, Hbw.out.trans (hb2.mono hszr)⟩
        · clear h48 h0
          go_wp2_with fail
          refine (Hcont.out wr).mono ?_
          rintro e w2 ⟨hb2, ⟨v, hv, hn, rfl⟩ | ⟨v, hv, hn, rfl⟩ | ⟨v, tp, q, hn, rfl⟩⟩
          all_goals
            have HN := Lib.hid hn
            clear hn
            go_wp2_with fail
            go_ret2
          · exact ⟨⟨_, _, rfl, okNum_some HN.out, by omega, by omega⟩, Hbw.out.trans (hb2.mono hszr)⟩
          · exact ⟨⟨_, _, rfl, okNum_some HN.out, by omega, by omega⟩, Hbw.out.trans (hb2.mono hszr)⟩
          · exact ⟨⟨_, _, rfl, okNum_some HN.out, by omega, by omega⟩, Hbw.out.trans (hb2.mono hszr)⟩

theorem pq (r : Nat) : (decide ((r : Int) < 48) || decide (57 < (r : Int))) = decide (r < 48 ∨ 57 < r) := by
  rw [Bool.eq_iff_iff]
  simp only [Bool.or_eq_true, decide_eq_true_eq]
  omega
theorem cutp_any (r : Nat) (w : World) :
    Calls Tryz.prog 145 #[.int .i32 (r : Int)] w fun e w' => e = .returned (.bool (decide (r < 48 ∨ 57 < r))) ∧ w' = w := by
  rcases (show r < 48 ∨ (48 ≤ r ∧ r ≤ 57) ∨ 57 < r by omega) with h | ⟨h, h'⟩ | h
  all_goals
    go_enter Tryz.func145, Tryz.ntmps145
    go_wp2_with fail
    go_ret
  all_goals exact ⟨ret_bool (by first | rfl | exact (pq r).symm), rfl⟩

/-- Where the digits end. -/
theorem idx_digs (s : ByteArray) : ∀ (f pos : Nat), s.size ≤ pos + f → pos ≤ s.size → goodTo isDig s.data.toList pos →
    Lib.idxFuncFrom (fun r => decide (r < 48 ∨ 57 < r)) true s f pos = if digs s.data.toList = s.size then -1 else (digs s.data.toList : Int)
  | 0, pos, hf, hp, hg => by
    have hd : digs s.data.toList = s.size := digs_at (fun j b hj => hg j b (by omega)) (by simp) (fun b hb => by rw [List.getElem?_eq_none (by simp)] at hb; cases hb)
    rw [if_pos hd]
    rfl
  | f + 1, pos, hf, hp, hg => by
    unfold Lib.idxFuncFrom
    by_cases hlt : pos < s.size
    · rw [if_pos hlt]
      obtain ⟨b, hb, hc⟩ := rune_at s pos hlt
      by_cases hd : isDig b = true
      · have hd' : 48 ≤ b.toNat ∧ b.toNat ≤ 57 := of_decide_eq_true hd
        rcases hc with ⟨_, he⟩ | ⟨h128, _⟩
        · rw [he, if_neg (by simp only [decide_eq_true_eq]; omega)]
          exact idx_digs s f (pos + 1) (by omega) (by omega) (goodTo_succ hg hb hd)
        · omega
      · have hd0 : isDig b = false := by simpa using hd
        have hd' : ¬ (48 ≤ b.toNat ∧ b.toNat ≤ 57) := of_decide_eq_false hd0
        have hde : digs s.data.toList = pos := digs_at (fun j c hj => hg j c hj) (by simpa using hp) (fun c hc' => by rw [hb] at hc'; obtain rfl := Option.some.inj hc'; exact hd0)
        rw [if_pos, hde, if_neg (by omega)]
        rcases hc with ⟨_, he⟩ | ⟨_, h1, _⟩
        · rw [he]; simp only [decide_eq_true_eq]; omega
        · simp only [decide_eq_true_eq]; omega
    · rw [if_neg hlt]
      have hd : digs s.data.toList = s.size := digs_at (fun j b hj => hg j b (by omega)) (by simp) (fun b hb => by rw [List.getElem?_eq_none (by simp)] at hb; cases hb)
      rw [if_pos hd]
end Go.Proofs.YtpfhhaonfbfheaaGreatDoor.va
