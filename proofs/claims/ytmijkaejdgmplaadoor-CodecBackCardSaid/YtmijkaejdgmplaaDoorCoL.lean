/- tinderboxlaw03.writes, written: a call of both Writers, and that they say the same. Conditions: as for the calls. -/
import Derived.Test.YtmijkaejdgmplaaDoorCoT
namespace Go.Proofs.YtmijkaejdgmplaaDoor.co
open Go.ChangeShapes Go.WideShapes Go.ChangeAt Go.RowKit

/-- One call, as data. -/
structure OpD where
  kind : Int
  on : Int
  n : Int
  s : ByteArray
def OpD.val (o : OpD) : Value := .agg #[.int .i64 o.kind, .int .i64 o.on, .int .i64 o.n, .string o.s]
def Wst.step (s : Wst) (o : OpD) : Wst := if o.kind = 1 then s.num o.n else if o.kind = 2 then s.text o.s.data.toList else s
theorem Wst.ok_step {s : Wst} (h : s.ok) (o : OpD) : (s.step o).ok := by unfold Wst.step; split; exact ok_num h _; split; exact ok_text h _; exact h
theorem Wst.most_step (s : Wst) (o : OpD) : (s.step o).most = s.most := by unfold Wst.step; split; exact most_num _ _; split; exact most_text _ _; rfl
theorem Wst.len_fails (s : Wst) (e : Int) : (s.fails e).out = s.out := by unfold Wst.fails; split <;> rfl
theorem Wst.len_lay (s : Wst) (l : List UInt8) : (s.lay l).out.length ≤ s.out.length + l.length := by
  unfold Wst.lay
  split
  · split
    · simp
    · simp
  · omega
theorem Wst.len_num (s : Wst) (n : Int) : (s.num n).out.length ≤ s.out.length + 9 := by
  unfold Wst.num
  split
  · rw [len_fails]; omega
  · have := len_lay s (rowL n.toNat)
    have := rowL_len n.toNat (by omega)
    omega
theorem Wst.len_text (s : Wst) (l : List UInt8) : (s.text l).out.length ≤ s.out.length + 9 + l.length := by
  unfold Wst.text
  split
  · rw [len_fails]; omega
  · have := len_lay s (rowL l.length ++ l)
    have := rowL_len l.length (by omega)
    simp only [List.length_append] at *
    omega
theorem Wst.len_step (s : Wst) (o : OpD) : (s.step o).out.length ≤ s.out.length + 9 + o.s.size := by
  unfold Wst.step
  split
  · have := len_num s o.n; omega
  · split
    · have := len_text s o.s.data.toList
      simp at this
      exact this
    · omega

/-- Both Writers hold the same. -/
def Pair (w : World) (b c : Nat) (s : Wst) (U : List Nat) : Prop := ∃ S T, U = S ++ T ∧ IsW w b s S ∧ IsX w c s T ∧ Apart S T
theorem Pair.kept {w w' : World} {b c : Nat} {s : Wst} {U V : List Nat} (h : Pair w b c s U) (hu : Upd V w w') (ha : Apart U V) : Pair w' b c s U := by
  obtain ⟨S, T, rfl, h1, h2, h3⟩ := h
  exact ⟨S, T, rfl, h1.kept hu fun k hk => ha k (by simp [hk]), h2.kept hu fun k hk => ha k (by simp [hk]), h3⟩
theorem Pair.below {w w' : World} {b c : Nat} {s : Wst} {U : List Nat} (h : Pair w b c s U) (hb : Below w.heap.size w w') : Pair w' b c s U := h.kept (V := []) (Upd.of_below hb []) (by intro k _; simp)
theorem Pair.lt {w : World} {b c : Nat} {s : Wst} {U : List Nat} (h : Pair w b c s U) : ∀ k ∈ U, k < w.heap.size := by
  obtain ⟨S, T, rfl, h1, h2, _⟩ := h
  intro k hk
  rcases List.mem_append.1 hk with hk | hk
  · exact h1.lt k hk
  · exact h2.lt k hk

/-- A call of the one, then the same call of the other. -/
theorem pair_both {w w1 w2 : World} {b c : Nat} {s s' : Wst} {S T : List Nat} (hX : IsX w c s T) (ha : Apart S T) (h1 : Moves S w w1 (IsW w1 b s')) (h2 : IsX w1 c s T → Moves T w1 w2 (IsX w2 c s')) :
    Moves (S ++ T) w w2 (Pair w2 b c s') := by
  obtain ⟨S', hW, hu, hS⟩ := h1
  have ha' : Apart S' T := ha.moved hX.lt hS
  obtain ⟨T', hX', hu2, hT⟩ := h2 (hX.kept hu ha.symm)
  refine ⟨S' ++ T', ⟨S', T', rfl, hW.kept hu2 ha', hX', (ha'.symm.moved hW.lt hT).symm⟩, (hu.mono fun k hk => by simp [hk]).trans hu2 fun k hk => .inl (by simp [hk]), fun k hk => ?_⟩
  rcases List.mem_append.1 hk with hk | hk
  · rcases hS k hk with h | h
    · exact .inl (by simp [h])
    · exact .inr h
  · rcases hT k hk with h | h
    · exact .inl (by simp [h])
    · exact .inr (Nat.le_trans hu.size h)

theorem Moves.from_alloc {S : List Nat} {w w' : World} {o : Obj} {R : List Nat → Prop} (h : Moves S (w.alloc o) w' R) : Moves S w w' R := Moves.from_below ((Below.refl _ _).alloc (Nat.le_refl _) _) h

set_option maxHeartbeats 2000000 in
theorem writes_any (b c : Nat) (o : OpD) (s : Wst) (U : List Nat) (w : World) (h : Pair w b c s U) (hs : o.s.size ≤ 9223372036854775807) (hn : o.n.toNat ≤ 9223372036854775807) (hm : s.most ≤ 9223372036854775807) (hok : s.ok) (hb : s.out.length + 9 + o.s.size ≤ 140737488355328) :
    Calls Tryd.prog 16 #[.pointer (some ⟨b, 0, none⟩), .pointer (some ⟨c, 0, none⟩), .agg #[.int .i64 o.kind, .int .i64 o.on, .int .i64 o.n, .string o.s]] w fun e w' => e = .returned (.tuple #[]) ∧ Moves U w w' (Pair w' b c (s.step o)) := by
  obtain ⟨S, T, rfl, h1, h2, h3⟩ := h
  have H1 := Lib.hid (h1.below ((Below.refl _ _).alloc (Nat.le_refl _) (.cells #[.int .i64 o.kind, .int .i64 o.on, .int .i64 o.n, .string o.s] 33)))
  have H2 := Lib.hid (h2.below ((Below.refl _ _).alloc (Nat.le_refl _) (.cells #[.int .i64 o.kind, .int .i64 o.on, .int .i64 o.n, .string o.s] 33)))
  have H3 := Lib.hid h3
  have H0 := Lib.hid (show Pair w b c s (S ++ T) from ⟨S, T, rfl, h1, h2, h3⟩)
  have HL := Lib.hid h1.lt
  clear h1 h2 h3
  obtain ⟨st, hst⟩ : ∃ st, st = s.step o := ⟨_, rfl⟩
  rw [← hst]
  unfold Wst.step at hst
  have HST := Lib.hid hst
  clear hst
  by_cases hk1 : o.kind = 1
  · have HE : Hid (st = s.num o.n) := Lib.hid (HST.out.trans (if_pos hk1))
    have hk1' : (o.kind == 1) = true := by rw [hk1]; rfl
    clear hk1 HST
    go_enter Tryd.func16, Tryd.ntmps16
    go_wp2_with fail
    refine (Num_any b o.n hn s S _ H1.out hm hok (by omega)).mono ?_
    rintro e w1 ⟨rfl, hM⟩
    have hc : w1.cell? ⟨w.heap.size, 2, none⟩ = some (.int .i64 o.n) := by
      obtain ⟨S', _, hu, _⟩ := hM
      refine (hu.cell (p := ⟨w.heap.size, 2, none⟩) (by simp) fun hk => ?_).trans (cell_in (o := 2) (heap_alloc_new w _))
      have := HL.out _ hk
      simp at this
    have HM := Lib.hid hM
    clear hM
    have HX : Hid (IsX w1 c s T) := Lib.hid (by
      obtain ⟨S', _, hu, _⟩ := HM.out
      exact H2.out.kept hu H3.out.symm)
    go_wp2_with fail
    refine (xNum_any c o.n s T _ HX.out hm hok (by omega)).mono ?_
    rintro e w2 ⟨rfl, hM⟩
    have HM2 := Lib.hid hM
    clear hM
    go_wp2_with fail
    go_end0
    refine ⟨rfl, Moves.from_alloc (pair_both H2.out H3.out (by rw [HE.out]; exact HM.out) fun _ => by rw [HE.out]; exact HM2.out)⟩
  · have hk1' : (o.kind == 1) = false := by simpa using hk1
    by_cases hk2 : o.kind = 2
    · have HE : Hid (st = s.text o.s.data.toList) := Lib.hid (HST.out.trans ((if_neg hk1).trans (if_pos hk2)))
      have hk2' : (o.kind == 2) = true := by rw [hk2]; rfl
      clear hk1 hk2 HST
      go_enter Tryd.func16, Tryd.ntmps16
      go_wp2_with fail
      refine (Text_any b o.s s S _ hs H1.out hm hok (by omega)).mono ?_
      rintro e w1 ⟨rfl, hM⟩
      have hc : w1.cell? ⟨w.heap.size, 3, none⟩ = some (.string o.s) := by
        obtain ⟨S', _, hu, _⟩ := hM
        refine (hu.cell (p := ⟨w.heap.size, 3, none⟩) (by simp) fun hk => ?_).trans (cell_in (o := 3) (heap_alloc_new w _))
        have := HL.out _ hk
        simp at this
      have HM := Lib.hid hM
      clear hM
      have HX : Hid (IsX w1 c s T) := Lib.hid (by
        obtain ⟨S', _, hu, _⟩ := HM.out
        exact H2.out.kept hu H3.out.symm)
      go_wp2_with fail
      refine (xText_any c o.s s T _ hs HX.out hm hok (by omega)).mono ?_
      rintro e w2 ⟨rfl, hM⟩
      have HM2 := Lib.hid hM
      clear hM
      go_wp2_with fail
      go_end0
      refine ⟨rfl, Moves.from_alloc (pair_both H2.out H3.out (by rw [HE.out]; exact HM.out) fun _ => by rw [HE.out]; exact HM2.out)⟩
    · have HE : Hid (st = s) := Lib.hid (HST.out.trans ((if_neg hk1).trans (if_neg hk2)))
      have hk2' : (o.kind == 2) = false := by simpa using hk2
      clear hk1 hk2 HST
      go_enter Tryd.func16, Tryd.ntmps16
      go_wp2_with fail
      go_end0
      exact ⟨rfl, Moves.from_alloc (Moves.same (by rw [HE.out]; exact H0.out.below ((Below.refl _ _).alloc (Nat.le_refl _) _)))⟩

set_option maxHeartbeats 1000000 in
theorem written_any (b c : Nat) (s : Wst) (U : List Nat) (w : World) (hg : Reg w) (h : Pair w b c s U) :
    Calls Tryd.prog 17 #[.pointer (some ⟨b, 0, none⟩), .pointer (some ⟨c, 0, none⟩)] w fun e w' => e = .returned (.bool true) ∧ Below w.heap.size w w' := by
  obtain ⟨S, T, rfl, h1, h2, h3⟩ := h
  have H1 := Lib.hid h1
  have H2 := Lib.hid h2
  have Hg := Lib.hid hg
  clear h1 h2 h3 hg
  go_enter Tryd.func17, Tryd.ntmps17
  go_wp2_with fail
  refine (Done_any b s S _ Hg.out H1.out).mono ?_
  rintro e w1 ⟨rfl, hb⟩
  have HB := Lib.hid hb
  clear hb
  go_wp2_with fail
  refine (xDone_any c s T _ (H2.out.below HB.out)).mono ?_
  rintro e w2 ⟨rfl, hb⟩
  have HB2 := Lib.hid hb
  clear hb
  go_wp2_with fail
  go_ret
  exact ⟨rfl, HB.out.trans (HB2.out.mono HB.out.size)⟩
end Go.Proofs.YtmijkaejdgmplaaDoor.co
