/- slices.ContainsFunc at the two closures over glyph.IsWord; slices.Clip of strings; strings.Split and Join as lists. Conditions: the listed variables hold what the program's text lays; the texts are no longer than 2147483647 bytes. -/
import Derived.Test.YtpfhhaonfbfheaaGreatDoorVaG
namespace Go.Proofs.YtpfhhaonfbfheaaGreatDoor.va
open Go.ChangeShapes Go.WideShapes Go.ChangeAt Go.RowKit gl

def allW (xs : List ByteArray) : Bool := xs.all fun x => wordL x.data.toList
/-- A function that says which words are none. -/
def NotW (g : Nat) : Prop := ∀ (x : ByteArray) (W : World), x.size ≤ 2147483647 → Vlo W → Calls Tryz.prog g #[.string x] W fun e w' => e = .returned (.bool (!wordL x.data.toList)) ∧ Below W.heap.size W w'
theorem notW_parse : NotW 118 := by
  intro x W hx hV
  have hw := IsWord_any x hx W hV.glo
  clear hV
  generalize wordL x.data.toList = b at *
  go_enter Tryz.func118, Tryz.ntmps118
  go_wp2_with fail
  refine hw.mono ?_
  rintro e w1 ⟨rfl, hb⟩
  go_wp2_with fail
  go_ret
  exact ⟨rfl, hb⟩
theorem notW_right : NotW 121 := by
  intro x W hx hV
  have hw := IsWord_any x hx W hV.glo
  clear hV
  generalize wordL x.data.toList = b at *
  go_enter Tryz.func121, Tryz.ntmps121
  go_wp2_with fail
  refine hw.mono ?_
  rintro e w1 ⟨rfl, hb⟩
  go_wp2_with fail
  go_ret
  exact ⟨rfl, hb⟩

def goodW (xs : List ByteArray) (k : Nat) : Prop := ∀ (j : Nat) x, j < k → xs[j]? = some x → wordL x.data.toList = true
theorem goodW_succ {xs : List ByteArray} {k : Nat} {x : ByteArray} (h : goodW xs k) (hx : xs[k]? = some x) (hp : wordL x.data.toList = true) : goodW xs (k + 1) := by
  intro j y hj hy
  rcases Nat.lt_or_ge j k with h1 | h1
  · exact h j y h1 hy
  · obtain rfl : j = k := by omega
    rw [hx] at hy
    obtain rfl := Option.some.inj hy
    exact hp
theorem allW_good {xs : List ByteArray} (h : goodW xs xs.length) : allW xs = true := by
  unfold allW
  rw [List.all_eq_true]
  intro x hx
  obtain ⟨j, hj⟩ := List.mem_iff_getElem?.1 hx
  exact h j x (lt_of_get hj) hj
theorem allW_bad {xs : List ByteArray} {k : Nat} {x : ByteArray} (hx : xs[k]? = some x) (hp : wordL x.data.toList = false) : allW xs = false := by
  unfold allW
  rw [List.all_eq_false]
  exact ⟨x, List.mem_of_getElem? hx, by simp [hp]⟩
def IdxOut (xs : List ByteArray) (e : Ending) : Prop := ∃ r : Int, e = .returned (.int .i64 r) ∧ ((allW xs = true ∧ r < 0) ∨ (allW xs = false ∧ 0 ≤ r))

set_option maxHeartbeats 1000000 in
theorem idxW_any (g : Nat) (eg : ∀ args w, (callFunc g args).run Tryz.prog w = .ok (.enter g args) w) (hg : NotW g) (v : Value) (xs : List ByteArray) (hx : ∀ x ∈ xs, x.size ≤ 2147483647) (hl : xs.length ≤ 4294967295) (w : World) (hV : Vlo w) (hS : Strs w v xs) :
    Calls Tryz.prog 82 #[v, .func (.func g) #[] #[]] w fun e w' => IdxOut xs e ∧ Below w.heap.size w w' := by
  have HV := Lib.hid hV
  clear hV
  obtain ⟨p, c, rfl, hc, hat⟩ := hS
  have Hg := Lib.hid hg
  clear hg
  have Hxs := Lib.hid hx
  clear hx
  have Hat := Lib.hid hat
  clear hat
  obtain ⟨n, hn⟩ : ∃ n, xs.length = n := ⟨_, rfl⟩
  have Hn := Lib.hid hn
  rw [hn] at hl hc ⊢
  clear hn
  go_enter Tryz.func82, Tryz.ntmps82
  go_wp2_with fail
  go_loopw [8] (fun i wr => ∃ k : Nat, k ≤ n ∧ i = .int .i64 k ∧ goodW xs k ∧ Below w.heap.size w wr) (fun i _ => n - (intOf i).toNat)
  case atStart => exact ⟨0, by omega, rfl, fun j x h => by omega, Below.refl _ _⟩
  case round =>
    obtain ⟨k, hk, rfl, hgo, hb⟩ := hrel
    have Hgo := Lib.hid hgo
    have Hb := Lib.hid hb
    have hsz := hb.size
    clear hgo hb
    by_cases hlt : k < n
    · obtain ⟨x, hx⟩ : ∃ x, xs[k]? = some x := ⟨xs[k]'(by rw [Hn.out]; exact hlt), List.getElem?_eq_getElem _⟩
      have Hx := Lib.hid hx
      rcases Hat.out with hnil | ⟨b, o, rfl, hblt, hat⟩
      · rw [hnil] at hx; cases hx
      · have hcell : wr.cell? ⟨b, o + k, none⟩ = some (.string x) := (Hb.out.cell (p := ⟨b, o + k, none⟩) hblt).trans (hat k x hx)
        have HW := Lib.hid (Hg.out x wr (Hxs.out x (List.mem_of_getElem? hx)) (HV.out.below Hb.out (Nat.le_refl _)))
        clear hat hx
        cases hw : wordL x.data.toList with
        | true =>
          rw [hw] at HW
          have Hw := Lib.hid hw
          clear hw
          go_wp2_with (go_at_fn g; refine HW.out.mono ?_; rintro e w2 ⟨rfl, hb2⟩)
          go_roundw
          case rel => exact ⟨k + 1, by omega, by go_num, goodW_succ Hgo.out Hx.out Hw.out, Hb.out.trans (hb2.mono hsz)⟩
          case measure => simp [intOf]; omega
        | false =>
          rw [hw] at HW
          have Hw := Lib.hid hw
          clear hw
          go_wp2_with (go_at_fn g; refine HW.out.mono ?_; rintro e w2 ⟨rfl, hb2⟩)
          go_ret
          exact ⟨⟨_, rfl, .inr ⟨allW_bad Hx.out Hw.out, by omega⟩⟩, Hb.out.trans (hb2.mono hsz)⟩
    · obtain rfl : k = n := by omega
      go_wp2_with fail
      go_ret
      exact ⟨⟨_, rfl, .inl ⟨allW_good (by rw [Hn.out]; exact Hgo.out), by omega⟩⟩, Hb.out⟩

theorem containsW_any (g : Nat) (eg : ∀ args w, (callFunc g args).run Tryz.prog w = .ok (.enter g args) w) (hg : NotW g) (v : Value) (xs : List ByteArray) (hx : ∀ x ∈ xs, x.size ≤ 2147483647) (hl : xs.length ≤ 4294967295) (w : World) (hV : Vlo w) (hS : Strs w v xs) :
    Calls Tryz.prog 55 #[v, .func (.func g) #[] #[]] w fun e w' => e = .returned (.bool (!allW xs)) ∧ Below w.heap.size w w' := by
  have hi := idxW_any g eg hg v xs hx hl w hV hS
  clear hV hg hx eg hl hS
  unfold IdxOut at hi
  go_enter Tryz.func55, Tryz.ntmps55
  go_wp2_with fail
  refine hi.mono ?_
  rintro e w1 ⟨⟨r, rfl, ⟨ha, hr⟩ | ⟨ha, hr⟩⟩, hb⟩
  · go_wp2_with fail
    go_ret
    exact ⟨ret_bool (by rw [ha]; first | rfl | exact (decide_eq_false (by omega)).symm), hb⟩
  · go_wp2_with fail
    go_ret
    exact ⟨ret_bool (by rw [ha]; first | rfl | exact (decide_eq_true (by omega)).symm), hb⟩

theorem clip_any (p : Option Addr) (n c : Nat) (hn : n ≤ c) (w : World) : Calls Tryz.prog 120 #[.slice p n c] w fun e w' => e = .returned (.slice p n n) ∧ w = w' := by
  cases p with
  | none =>
    go_enter Tryz.func120, Tryz.ntmps120
    go_wp2_with fail
    go_ret
    exact ⟨rfl, rfl⟩
  | some a =>
    go_enter Tryz.func120, Tryz.ntmps120
    go_wp2_with fail
    go_ret
    exact ⟨rfl, rfl⟩
theorem map_mk {ps : List ByteArray} {L : List (List UInt8)} (h : ps.map (·.data.toList) = L) : ps = L.map B := by rw [← h, map_B]
theorem ret_sl {p : Option Addr} {a b c d : Nat} (h : a = b) (h2 : c = d) : Ending.returned (.slice p a c) = .returned (.slice p b d) := by rw [h, h2]
theorem splitW_any (s : ByteArray) (hs : s.size ≤ 2147483647) (w : World) (hV : Vlo w) :
    Calls Tryz.prog 76 #[.string s, .string ⟨#[44]⟩] w fun e w' => (e = .returned (.slice (some ⟨w.heap.size, 0, none⟩) (pcs 44 s.data.toList).length (pcs 44 s.data.toList).length) ∧ w'.heap[w.heap.size]? = some (.cells (((pcs 44 s.data.toList).map B).map Value.string).toArray 9 (0, 0))) ∧ w.heap.size < w'.heap.size ∧ Below w.heap.size w w' := by
  obtain ⟨m, hm⟩ := hV.glo.maxLen
  refine (Tryz.strings_Split s ⟨#[44]⟩ m w (by omega) hm (by simp [ByteArray.size])).mono ?_
  rintro e w' ⟨he, rfl⟩
  have hl : (Lib.splitB ⟨#[44]⟩ 0 (Lib.countB s ⟨#[44]⟩) s).length = Lib.countB s ⟨#[44]⟩ + 1 := Lib.splitB_all _ (by simp [ByteArray.size]) 0 _ s rfl
  have hp := map_mk (splitB_pcs 44 s)
  refine ⟨⟨?_, ?_⟩, by simp, (Below.refl _ w).alloc (Nat.le_refl _) _⟩
  · rw [he]
    exact ret_sl (by rw [← countB_pcs]) (by rw [← countB_pcs])
  · rw [heap_alloc_new, ← hp]
theorem strs_row {w : World} {b : Nat} {xs : List ByteArray} {t : TypeId} {f : Nat × Nat} (h : w.heap[b]? = some (.cells (xs.map Value.string).toArray t f)) (hb : b < w.heap.size) (c : Nat) (hc : xs.length ≤ c) : Strs w (.slice (some ⟨b, 0, none⟩) xs.length c) xs :=
  ⟨_, c, rfl, hc, .inr ⟨b, 0, rfl, hb, fun j x hj => by
    rw [cell_of_row w b _ _ _ _ h, Nat.zero_add]
    simp [hj]⟩⟩
/-- What Join gives. -/
theorem joinW_any (v : Value) (xs : List ByteArray) (w : World) (hS : Strs w v xs) (hl : xs.length ≤ 2147483647) (hj : (joined xs).length ≤ 140737488355328) :
    Calls Tryz.prog 122 #[v, .string ⟨#[44]⟩] w fun e w' => e = .returned (.string (B (joined xs))) ∧ Below w.heap.size w w' := by
  obtain ⟨p, c, rfl, hc, h⟩ := hS
  rcases h with rfl | ⟨b, o, rfl, hlt, hat⟩
  · refine (Tryz.strings_Join_none p c ⟨#[44]⟩ w).mono ?_
    rintro e w' ⟨rfl, rfl⟩
    exact ⟨rfl, Below.refl _ _⟩
  · exact Tryz.strings_Join b o c xs ⟨#[44]⟩ w hat hlt (by omega) hc hj
end Go.Proofs.YtpfhhaonfbfheaaGreatDoor.va
