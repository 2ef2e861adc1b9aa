/- The memory that package value reads: the listed variables, a slice of strings as a list, a value as a struct; value.Unit, ends, names, printable and the reference's Unit and most return plain functions. Conditions: the tables hold what the program's text lays. -/
import Derived.Test.YtpfhhaonfbfheaaGreatDoorVaB
import Derived.Test.YtpfhhaonfbfheaaGreatDoorGlA
import Derived.Test.YtpfhhaonfbfheaaGreatDoorLib
import Derived.Laws.RangeAny
import Derived.Lib.OthersKept
import Derived.Deep.LoopGhost
import Derived.Shelf.Strconv.Itoa3
import Derived.Lib.TrimU
import Derived.Lib.ItoaWalk
namespace Go.Proofs.YtpfhhaonfbfheaaGreatDoor.va
open Go.ChangeShapes Go.WideShapes Go.ChangeAt Go.RowKit gl

theorem seq_true {a b : ByteArray} (h : a = b) : (a.toList == b.toList) = true := by rw [h]; simp
theorem seq_false {a b : ByteArray} (h : a ≠ b) : (a.toList == b.toList) = false := by
  rw [beq_eq_false_iff_ne, ByteArray.toList_eq, ByteArray.toList_eq]
  exact ba_ne h
theorem seq_lit {a : ByteArray} {l : List UInt8} (h : a.data.toList = l) : (a.toList == l) = true := by rw [ByteArray.toList_eq, h]; simp
theorem seq_nlit {a : ByteArray} {l : List UInt8} (h : a.data.toList ≠ l) : (a.toList == l) = false := by
  rw [beq_eq_false_iff_ne, ByteArray.toList_eq]
  exact h

def unitsL : List Value := [.int .i64 3, .string ⟨#[]⟩, .int .i64 1, .int .i64 3, .string ⟨#[107]⟩, .int .i64 1024, .int .i64 3, .string ⟨#[109]⟩, .int .i64 1048576, .int .i64 3, .string ⟨#[103]⟩, .int .i64 1073741824,
  .int .i64 4, .string ⟨#[115]⟩, .int .i64 1, .int .i64 4, .string ⟨#[109]⟩, .int .i64 60, .int .i64 4, .string ⟨#[104]⟩, .int .i64 3600, .int .i64 4, .string ⟨#[100]⟩, .int .i64 86400]

/-- A slice of strings reads as a list. -/
def Strs (w : World) (v : Value) (xs : List ByteArray) : Prop :=
  ∃ (p : Option Addr) (c : Nat), v = .slice p xs.length c ∧ xs.length ≤ c ∧ (xs = [] ∨ ∃ b o, p = some ⟨b, o, none⟩ ∧ b < w.heap.size ∧ ∀ (j : Nat) x, xs[j]? = some x → w.cell? ⟨b, o + j, none⟩ = some (.string x))
theorem Strs.below {w w' : World} {v : Value} {xs : List ByteArray} {B : Nat} (h : Strs w v xs) (hb : Below B w w') (hB : w.heap.size ≤ B) : Strs w' v xs := by
  obtain ⟨p, c, rfl, hc, h⟩ := h
  refine ⟨p, c, rfl, hc, ?_⟩
  rcases h with h | ⟨b, o, rfl, hlt, hat⟩
  · exact .inl h
  · exact .inr ⟨b, o, rfl, by have := hb.size; omega, fun j x hx => (hb.cell (p := ⟨b, o + j, none⟩) (by show b < B; omega)).trans (hat j x hx)⟩
/-- A value as a struct. -/
def rep (v : Val) (sl : Value) : Value := .agg #[.int .i64 v.kind, .int .i64 v.int, .string v.text, sl]

theorem Tryz.infoU : (Tryz.prog.info? 170).map (·.size) = some unitsL.length := by kernel_rfl
theorem Tryz.ixU0 (w : World) : (Instr.index 170 (.agg unitsL.toArray) (.int .i64 0)).run Tryz.prog w = .ok (.agg #[.int .i64 3, .string ⟨#[]⟩, .int .i64 1]) w := by kernel_rfl
theorem Tryz.ixU1 (w : World) : (Instr.index 170 (.agg unitsL.toArray) (.int .i64 1)).run Tryz.prog w = .ok (.agg #[.int .i64 3, .string ⟨#[107]⟩, .int .i64 1024]) w := by kernel_rfl
theorem Tryz.ixU2 (w : World) : (Instr.index 170 (.agg unitsL.toArray) (.int .i64 2)).run Tryz.prog w = .ok (.agg #[.int .i64 3, .string ⟨#[109]⟩, .int .i64 1048576]) w := by kernel_rfl
theorem Tryz.ixU3 (w : World) : (Instr.index 170 (.agg unitsL.toArray) (.int .i64 3)).run Tryz.prog w = .ok (.agg #[.int .i64 3, .string ⟨#[103]⟩, .int .i64 1073741824]) w := by kernel_rfl
theorem Tryz.ixU4 (w : World) : (Instr.index 170 (.agg unitsL.toArray) (.int .i64 4)).run Tryz.prog w = .ok (.agg #[.int .i64 4, .string ⟨#[115]⟩, .int .i64 1]) w := by kernel_rfl
theorem Tryz.ixU5 (w : World) : (Instr.index 170 (.agg unitsL.toArray) (.int .i64 5)).run Tryz.prog w = .ok (.agg #[.int .i64 4, .string ⟨#[109]⟩, .int .i64 60]) w := by kernel_rfl
theorem Tryz.ixU6 (w : World) : (Instr.index 170 (.agg unitsL.toArray) (.int .i64 6)).run Tryz.prog w = .ok (.agg #[.int .i64 4, .string ⟨#[104]⟩, .int .i64 3600]) w := by kernel_rfl
theorem Tryz.ixU7 (w : World) : (Instr.index 170 (.agg unitsL.toArray) (.int .i64 7)).run Tryz.prog w = .ok (.agg #[.int .i64 4, .string ⟨#[100]⟩, .int .i64 86400]) w := by kernel_rfl

/-- The unit at a place of the table: its kind, name, size. -/
def uat : Nat → Int × List UInt8 × Int
  | 0 => (3, [], 1) | 1 => (3, [107], 1024) | 2 => (3, [109], 1048576) | 3 => (3, [103], 1073741824)
  | 4 => (4, [115], 1) | 5 => (4, [109], 60) | 6 => (4, [104], 3600) | _ => (4, [100], 86400)
def unitFrom (k : Int) (l : List UInt8) : Nat → Nat → Int
  | 0, _ => 0
  | f + 1, i => if k = (uat i).1 ∧ l = (uat i).2.1 then (uat i).2.2 else unitFrom k l f (i + 1)
theorem unitFrom_eq (k : Int) (l : List UInt8) : unitFrom k l 8 0 = unit k l := by
  unfold unit
  by_cases h3 : k = 3
  · subst h3
    simp [unitFrom, uat]
  · by_cases h4 : k = 4
    · subst h4
      simp [unitFrom, uat]
    · simp [unitFrom, uat, h3, h4]
theorem uat_ix (i : Nat) (hi : i < 8) (w : World) : (Instr.index 170 (.agg unitsL.toArray) (.int .i64 (i : Int))).run Tryz.prog w = .ok (.agg #[.int .i64 (uat i).1, .string (B (uat i).2.1), .int .i64 (uat i).2.2]) w := by
  rcases (show i = 0 ∨ i = 1 ∨ i = 2 ∨ i = 3 ∨ i = 4 ∨ i = 5 ∨ i = 6 ∨ i = 7 by omega) with rfl | rfl | rfl | rfl | rfl | rfl | rfl | rfl
  · exact Tryz.ixU0 w
  · exact Tryz.ixU1 w
  · exact Tryz.ixU2 w
  · exact Tryz.ixU3 w
  · exact Tryz.ixU4 w
  · exact Tryz.ixU5 w
  · exact Tryz.ixU6 w
  · exact Tryz.ixU7 w

set_option maxHeartbeats 4000000 in
theorem Unit_any (k : Int) (s : ByteArray) (w : World) (hU : w.rangeAt 4 0 unitsL) :
    Calls Tryz.prog 146 #[.int .i64 k, .string s] w fun e w' => e = .returned (.int .i64 (unit k s.data.toList)) ∧ Below w.heap.size w w' := by
  go_enter Tryz.func146, Tryz.ntmps146
  go_wp2_with (with_reducible refine wpList_load_mid rfl 170 _ rfl 4 0 rfl _ _ hU Tryz.underlying170 rfl Tryz.infoU ?_)
  clear hU
  go_loopw [8] (fun i wr => ∃ n : Nat, n ≤ 8 ∧ i = .int .i64 n ∧ unitFrom k s.data.toList (8 - n) n = unit k s.data.toList ∧ Below w.heap.size w wr) (fun i _ => 8 - (intOf i).toNat)
  case atStart => exact ⟨0, by omega, rfl, unitFrom_eq _ _, Below.refl _ _⟩
  case round =>
    obtain ⟨n, hn, rfl, hu, hb⟩ := hrel
    have Hu := Lib.hid hu
    have Hb := Lib.hid hb
    have hsz := hb.size
    clear hu hb
    by_cases hlt : n < 8
    · have hix := uat_ix n hlt
      have Hs : Hid (∀ m, 8 - n = m + 1 → (if k = (uat n).1 ∧ s.data.toList = (uat n).2.1 then (uat n).2.2 else unitFrom k s.data.toList m (n + 1)) = unit k s.data.toList) := Lib.hid (by
        intro m hm
        have := Hu.out
        rw [hm] at this
        exact this)
      obtain ⟨K, hK⟩ : ∃ K, (uat n).1 = K := ⟨_, rfl⟩
      obtain ⟨L, hL⟩ : ∃ L, (uat n).2.1 = L := ⟨_, rfl⟩
      obtain ⟨M, hM⟩ : ∃ M, (uat n).2.2 = M := ⟨_, rfl⟩
      rw [hK, hL, hM] at hix Hs
      clear hK hL hM
      by_cases hk : K = k
      · have hk' : (K == k) = true := by simp [hk]
        by_cases hs : L = s.data.toList
        · have hs' : (L == s.toList) = true := by rw [ByteArray.toList_eq, ← hs]; simp
          have Hs2 := Lib.hid hs
          have Hk2 := Lib.hid hk
          clear hs hk
          go_wp2_with fail
          go_ret
          exact ⟨ret_int' (by
            have := Hs.out (7 - n) (by omega)
            rw [if_pos ⟨Hk2.out.symm, Hs2.out.symm⟩] at this
            exact this.symm), Hb.out.alloc (by omega) _⟩
        · have hs' : (L == s.toList) = false := by rw [ByteArray.toList_eq, beq_eq_false_iff_ne]; exact hs
          have Hs2 := Lib.hid hs
          have Hk2 := Lib.hid hk
          clear hs hk
          go_wp2_with fail
          go_roundw
          case rel => exact ⟨n + 1, by omega, by go_num, by
            have := Hs.out (7 - n) (by omega)
            rw [if_neg (by rintro ⟨_, e⟩; exact Hs2.out e.symm)] at this
            rw [show 8 - (n + 1) = 7 - n by omega]
            exact this, Hb.out.alloc (by omega) _⟩
          case measure => simp [intOf]; omega
      · have hk' : (K == k) = false := by simp [hk]
        have Hk2 := Lib.hid hk
        clear hk
        go_wp2_with fail
        go_roundw
        case rel => exact ⟨n + 1, by omega, by go_num, by
          have := Hs.out (7 - n) (by omega)
          rw [if_neg (by rintro ⟨e, _⟩; exact Hk2.out e.symm)] at this
          rw [show 8 - (n + 1) = 7 - n by omega]
          exact this, Hb.out.alloc (by omega) _⟩
        case measure => simp [intOf]; omega
    · obtain rfl : n = 8 := by omega
      have hN : ((8 : Nat) : Int) = 8 := rfl
      go_wp2_with fail
      go_ret
      exact ⟨ret_int' (by have := Hu.out; exact this.symm), Hb.out⟩

theorem refUnit_any (k : Int) (s : ByteArray) (w : World) :
    Calls Tryz.prog 151 #[.int .i64 k, .string s] w fun e w' => e = .returned (.int .i64 (unit k s.data.toList)) ∧ w' = w := by
  rw [← ByteArray.toList_eq s]
  by_cases h3 : k = 3
  · subst h3
    go_enter Tryz.func151, Tryz.ntmps151
    go_wp2
    all_goals
      go_ret
      refine ⟨ret_int' ?_, rfl⟩
      simp_all [unit]
  · have h3' : (k == 3) = false := by simp [h3]
    by_cases h4 : k = 4
    · subst h4
      clear h3
      go_enter Tryz.func151, Tryz.ntmps151
      go_wp2
      all_goals
        go_ret
        refine ⟨ret_int' ?_, rfl⟩
        simp_all [unit]
    · have h4' : (k == 4) = false := by simp [h4]
      have H3 := Lib.hid h3
      have H4 := Lib.hid h4
      clear h3 h4
      go_enter Tryz.func151, Tryz.ntmps151
      go_wp2
      go_ret
      refine ⟨ret_int' ?_, rfl⟩
      unfold unit
      rw [if_neg H3.out, if_neg H4.out]

theorem kinds (k : Int) : k = 1 ∨ k = 2 ∨ k = 3 ∨ k = 4 ∨ k = 5 ∨ k = 6 ∨ (k ≠ 1 ∧ k ≠ 2 ∧ k ≠ 3 ∧ k ≠ 4 ∧ k ≠ 5 ∧ k ≠ 6) := by omega
theorem ret_two {a b c d : Int} (h : a = c) (h2 : b = d) : Ending.returned (.tuple #[.int .i64 a, .int .i64 b]) = .returned (.tuple #[.int .i64 c, .int .i64 d]) := by rw [h, h2]

theorem ends_any (k : Int) (w : World) :
    Calls Tryz.prog 116 #[.int .i64 k] w fun e w' => e = .returned (.tuple #[.int .i64 (least k), .int .i64 (most k)]) ∧ w' = w := by
  rcases kinds k with rfl | rfl | rfl | rfl | rfl | rfl | ⟨h1, h2, h3, h4, h5, h6⟩
  all_goals
    first
      | (have q1 : (k == 1) = false := by simp [h1]
         have q2 : (k == 2) = false := by simp [h2]
         have q3 : (k == 3) = false := by simp [h3]
         have q4 : (k == 4) = false := by simp [h4])
      | skip
    go_enter Tryz.func116, Tryz.ntmps116
    go_wp2
    go_ret2
    first
      | exact ⟨rfl, rfl⟩
      | (refine ⟨?_, rfl⟩
         show Ending.returned (.tuple #[.int .i64 0, .int .i64 0]) = _
         exact ret_two (by unfold least; rw [if_neg h2]) (by unfold most; rw [if_neg h1, if_neg h2, if_neg h3, if_neg h4]))

theorem most_any (k : Int) (hk : k = 3 ∨ k = 4) (w : World) :
    Calls Tryz.prog 152 #[.int .i64 k] w fun e w' => e = .returned (.int .i64 (most k)) ∧ w' = w := by
  rcases hk with rfl | rfl
  all_goals
    go_enter Tryz.func152, Tryz.ntmps152
    go_wp2
    go_ret
    exact ⟨rfl, rfl⟩

/-- What a range over a string reads at a place: the byte, or a rune above all bytes of ASCII. -/
theorem rune_at (s : ByteArray) (pos : Nat) (h : pos < s.size) : ∃ b : UInt8, s.data.toList[pos]? = some b ∧ ((b.toNat < 128 ∧ Utf8.decode s pos = (b.toNat, 1)) ∨ (128 ≤ b.toNat ∧ 128 ≤ (Utf8.decode s pos).1 ∧ (Utf8.decode s pos).1 ≤ 1114111)) := by
  refine ⟨s[pos]'h, by
    have : s.data.toList[pos]? = some (s.data[pos]'h) := by simp [h]
    exact this, ?_⟩
  by_cases ha : (s[pos]'h).toNat < 128
  · exact .inl ⟨ha, decode_ascii s pos h ha⟩
  · exact .inr ⟨by omega, (decode_high s pos h (by omega)).1, Lib.rune_le s pos⟩

/-- A text of bytes from 32 to 126. -/
def prnAll (l : List UInt8) : Bool := l.all prn
def goodTo (p : UInt8 → Bool) (l : List UInt8) (k : Nat) : Prop := ∀ (j : Nat) (b : UInt8), j < k → l[j]? = some b → p b = true
theorem prn_yes {b : UInt8} (h : 32 ≤ b.toNat) (h2 : b.toNat ≤ 126) : prn b = true := decide_eq_true ⟨h, h2⟩
theorem prn_no {b : UInt8} (h : b.toNat < 32 ∨ 126 < b.toNat) : prn b = false := decide_eq_false (by omega)
theorem dig_yes {b : UInt8} (h : 48 ≤ b.toNat) (h2 : b.toNat ≤ 57) : isDig b = true := decide_eq_true ⟨h, h2⟩
theorem dig_no {b : UInt8} (h : b.toNat < 48 ∨ 57 < b.toNat) : isDig b = false := decide_eq_false (by omega)
theorem goodTo_succ {p : UInt8 → Bool} {l : List UInt8} {k : Nat} {b : UInt8} (h : goodTo p l k) (hb : l[k]? = some b) (hp : p b = true) : goodTo p l (k + 1) := by
  intro j c hj hc
  rcases Nat.lt_or_ge j k with h1 | h1
  · exact h j c h1 hc
  · obtain rfl : j = k := by omega
    rw [hb] at hc
    obtain rfl := Option.some.inj hc
    exact hp
theorem all_good {p : UInt8 → Bool} {l : List UInt8} (h : goodTo p l l.length) : l.all p = true := by
  rw [List.all_eq_true]
  intro b hb
  obtain ⟨j, hj⟩ := List.mem_iff_getElem?.1 hb
  exact h j b (by
    rcases Nat.lt_or_ge j l.length with h1 | h1
    · exact h1
    · rw [List.getElem?_eq_none h1] at hj; cases hj) hj
theorem all_bad {p : UInt8 → Bool} {l : List UInt8} {k : Nat} {b : UInt8} (hb : l[k]? = some b) (hp : p b = false) : l.all p = false := by
  rw [List.all_eq_false]
  exact ⟨b, List.mem_of_getElem? hb, by simp [hp]⟩

set_option maxHeartbeats 2000000 in
theorem printable_any (s : ByteArray) (w : World) :
    Calls Tryz.prog 117 #[.string s] w fun e w' => e = .returned (.bool (prnAll s.data.toList)) ∧ Below w.heap.size w w' := by
  go_enter Tryz.func117, Tryz.ntmps117
  go_wp2_with fail
  go_loopg [] s.size (fun gf wr => ∃ pos : Nat, pos ≤ s.size ∧ wr.heap[w.heap.size]? = some (.stringIter s pos) ∧ Below w.heap.size w wr ∧ goodTo prn s.data.toList pos ∧ s.size ≤ pos + gf)
  case atStart => exact ⟨0, by omega, World.iter_heap w s 0, (Below.refl _ w).alloc (Nat.le_refl _) _, fun j b h => by omega, by omega⟩
  case round =>
    obtain ⟨pos, hps, hit, hbw, hto, hfu⟩ := hrel
    by_cases hp : pos < s.size
    · obtain ⟨g', rfl⟩ : ∃ g', gk = g' + 1 := ⟨gk - 1, by omega⟩
      have hnx : ∀ ty, (Instr.next (.pointer (some ⟨w.heap.size, 0, none⟩)) true ty).run Tryz.prog wr = _ := fun ty => Lib.run_next_any_at wr w.heap.size s pos ty hit hp
      obtain ⟨b, hb, hc⟩ := rune_at s pos hp
      have hit2 := Lib.iterAt_heap wr w.heap.size s pos (pos + (Utf8.decode s pos).2) hit
      have hbw2 := Lib.below_iterAt hbw (k := w.heap.size) (Nat.le_refl _) s (pos + (Utf8.decode s pos).2)
      rcases hc with ⟨h128, he⟩ | ⟨h128, hr, hr2⟩
      · rw [he] at hnx hit2 hbw2
        obtain ⟨W, hW⟩ : ∃ W, wr.iterAt w.heap.size s (pos + (b.toNat, 1).2) = W := ⟨_, rfl⟩
        rw [hW] at hnx hit2 hbw2
        have Hto := Lib.hid hto
        have Hb := Lib.hid hb
        clear hto hb he hW
        rcases (show b.toNat < 32 ∨ (32 ≤ b.toNat ∧ b.toNat ≤ 126) ∨ 126 < b.toNat by omega) with h | ⟨h, h'⟩ | h
        · go_wp2_with fail
          go_ret
          exact ⟨ret_bool (all_bad Hb.out (prn_no (by omega))), hbw2⟩
        · go_wp2_with fail
          go_roundg g'
          case measure => omega
          case rel => exact ⟨pos + 1, by omega, hit2, hbw2, goodTo_succ Hto.out Hb.out (prn_yes h h'), by omega⟩
        · go_wp2_with fail
          go_ret
          exact ⟨ret_bool (all_bad Hb.out (prn_no (by omega))), hbw2⟩
      · have Hb := Lib.hid hb
        clear hb hto
        obtain ⟨W, hW⟩ : ∃ W, wr.iterAt w.heap.size s (pos + (Utf8.decode s pos).2) = W := ⟨_, rfl⟩
        obtain ⟨R, hR⟩ : ∃ R, (Utf8.decode s pos).1 = R := ⟨_, rfl⟩
        rw [hW] at hnx hit2 hbw2
        rw [hR] at hnx hr hr2
        clear hW hR
        go_wp2_with fail
        go_ret
        exact ⟨ret_bool (all_bad Hb.out (prn_no (by omega))), hbw2⟩
    · have hnx : ∀ ty, (Instr.next (.pointer (some ⟨w.heap.size, 0, none⟩)) true ty).run Tryz.prog wr = _ := fun ty => Lib.run_next_end_at wr w.heap.size s pos ty hit hp
      have hall : prnAll s.data.toList = true := all_good (by
        obtain rfl : pos = s.size := by omega
        simpa using hto)
      go_wp2_with fail
      go_ret
      exact ⟨ret_bool hall, hbw⟩
end Go.Proofs.YtpfhhaonfbfheaaGreatDoor.va
