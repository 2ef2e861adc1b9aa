/- slices.Insert of one definition into a set's row, at any place. Conditions: at most 64 definitions; the new one lies in another block. -/
import Derived.Test.YtpfhhaonfbfheaaGreatDoorKyI
import Derived.Laws.CopyOwn
namespace Go.Proofs.YtpfhhaonfbfheaaGreatDoor.ky
open Go.ChangeShapes Go.WideShapes Go.ChangeAt Go.RowKit gl va ls

theorem flat_take (S : List Ky) (k : Nat) : (rw.flat kyC S).take (k * 6) = rw.flat kyC (S.take k) := by
  rcases Nat.lt_or_ge k S.length with h | h
  · conv => lhs; rw [← List.take_append_drop k S, rw.flat_append]
    rw [List.take_append_of_le_length (by rw [rw.flat_len kyC_len, List.length_take]; omega), List.take_of_length_le (by rw [rw.flat_len kyC_len, List.length_take]; omega)]
  · rw [List.take_of_length_le (by rw [rw.flat_len kyC_len]; omega), List.take_of_length_le h]
theorem flat_drop (S : List Ky) (k : Nat) : (rw.flat kyC S).drop (k * 6) = rw.flat kyC (S.drop k) := by
  rcases Nat.lt_or_ge k S.length with h | h
  · conv => lhs; rw [← List.take_append_drop k S, rw.flat_append]
    rw [List.drop_append_of_le_length (by rw [rw.flat_len kyC_len, List.length_take]; omega), List.drop_of_length_le (by rw [rw.flat_len kyC_len, List.length_take]; omega), List.nil_append]
  · rw [List.drop_of_length_le (by rw [rw.flat_len kyC_len]; omega), List.drop_of_length_le h]; rfl
theorem flat_ins (S : List Ky) (k : Nat) (x : Ky) : (rw.flat kyC S).take (k * 6) ++ kyC x ++ (rw.flat kyC S).drop (k * 6) = rw.flat kyC (S.take k ++ x :: S.drop k) := by
  rw [flat_take, flat_drop, rw.flat_append]
  simp [rw.flat]
theorem blk_cell {M : Nat} {w : World} {g c n : Nat} {xs : List Value} (h : Blk 62 6 M w (.slice (some ⟨g, 0, none⟩) n c) n xs) : ∀ j v, xs[j]? = some v → w.cell? ⟨g, j, none⟩ = some v := fun _ _ hj => h.cell hj
theorem blk_rw {M : Nat} {w : World} {v : Value} {S : List Ky} (h : Blk 62 6 M w v S.length (rw.flat kyC S)) : rw.Rw kyC 6 w v S := by
  have hh := h
  rcases h.2 with ⟨rfl, h0⟩ | ⟨g, c, cs, rfl, hnc, _, hb, _, _⟩
  · obtain rfl := List.eq_nil_of_length_eq_zero h0
    exact ⟨none, 0, rfl, Nat.le_refl _, .inl rfl⟩
  · refine ⟨_, c, rfl, hnc, .inr ⟨g, 0, rfl, lt_of_block hb, fun j x hx i u hu => ?_⟩⟩
    rw [Nat.zero_add]
    exact hh.cell (rw.flat_at kyC_len S j x i u hx hu)

set_option maxHeartbeats 4000000 in
set_option maxRecDepth 100000 in
/-- At the end: an append. -/
theorem insert_end (M : Nat) (v : Value) (n : Nat) (xs : List Value) (g : Nat) (x : Ky) (hn : n ≤ 64) (w : World) (hM : M ≤ w.heap.size) (hB : Blk 62 6 M w v n xs) (hg : w.heap[g]? = some (.cells (kyC x).toArray 62 (0, 0))) :
    Calls Tryz.prog 73 #[v, .int .i64 (n : Nat), .slice (some ⟨g, 0, none⟩) 1 1] w fun e w' => ∃ v', e = .returned v' ∧ Blk 62 6 M w' v' (n + 1) (xs ++ kyC x) ∧ w.grownBy w' v.ownBlock := by
  obtain ⟨i0, si, sz0, sz1, sz2⟩ := info_parts infoK
  obtain ⟨p, c, rfl⟩ := hB.form
  have hnc : n ≤ c := by
    rcases hB.2 with ⟨h, h0⟩ | ⟨g, c', cs, h, h1, _⟩
    · omega
    · cases h; exact h1
  have HB := Lib.hid hB
  have Hsrc : Hid (SrcV w (.slice (some ⟨g, 0, none⟩) 1 1) 1 (kyC x)) := Lib.hid (.inr ⟨by decide, _, _, rfl, fun j u hj => by
    rw [addN, cell_in hg, Nat.zero_add, List.getElem?_toArray]
    exact hj⟩)
  have Hr1 := Lib.hid (kyC_one x)
  have q0 : ((1 : Int) == 0) = false := by decide
  have q1 : ((n : Int) == (n : Int)) = true := by simp
  have q2 : (0 : Int) ≤ (n : Int) := by omega
  have q3 : (n : Int) ≤ (n : Int) := by omega
  clear hB hg
  by_cases hcn : c = n
  case' pos => subst hcn
  all_goals
    go_enter Tryz.func73, Tryz.ntmps73
    focus
      go_wp2_with (at_builtin; go_must (refine wpList_append_blk rfl _ _ 27 rfl 62 i0 _ 6 72 Tryz.underlying27 si sz0 sz1 sz2 rfl (by decide) M _ _ _ (by rfl) HB.out _ 1 _ (by decide) (by rfl) Hsrc.out (by rfl) Hr1.out (by omega) (by omega) (by omega) ?_))
    intro p' cap w5 hown hgrow hsh
    go_wp2_with fail
    go_ret
    exact ⟨_, rfl, hown, hgrow⟩
theorem insert_any (M : Nat) (v : Value) (S : List Ky) (k : Nat) (hk : k ≤ S.length) (x : Ky) (g : Nat) (hn : S.length ≤ 64) (w : World) (hM : M ≤ w.heap.size) (hB : Blk 62 6 M w v S.length (rw.flat kyC S)) (hg : w.heap[g]? = some (.cells (kyC x).toArray 62 (0, 0))) (hne : ∀ q, v.ownBlock = some q → g ≠ q) :
    Calls Tryz.prog 73 #[v, .int .i64 (k : Nat), .slice (some ⟨g, 0, none⟩) 1 1] w fun e w' => ∃ v', e = .returned v' ∧ Blk 62 6 M w' v' (S.length + 1) (rw.flat kyC (S.take k ++ x :: S.drop k)) ∧ w.grownBy w' v.ownBlock := by
  rcases Nat.lt_or_ge k S.length with hlt | hge
  · have hB' := hB
    rcases hB.2 with ⟨rfl, h0⟩ | ⟨q, c, cur, rfl, hnc, hq, hb, hcs, ht⟩
    · omega
    have hgq : g ≠ q := hne q rfl
    have hfl := rw.flat_len kyC_len S
    have h1c := rw.flat_one kyC_one S
    by_cases hroom : S.length + 1 ≤ c
    · refine (insert_shift q S.length c k g 1 (rw.flat kyC S) (kyC x) cur w hlt (by decide) hroom (by omega) hgq hfl rfl hb hcs (blk_cell hB') hg h1c (kyC_one x)).mono fun e w' h => ?_
      obtain ⟨rfl, rfl⟩ := h
      obtain ⟨h1, h2⟩ := blk_shift (vs := kyC x) hB' (Nat.le_of_lt hlt) hroom rfl
      rw [flat_ins] at h1
      exact ⟨_, rfl, h1, h2.os, h2.tape, h2.output, h2.size, fun j hj hne => h2.block j hj (fun hm => hne (by rw [List.mem_singleton.1 hm]; rfl))⟩
    · refine (insert_grow q S.length c k g 1 (rw.flat kyC S) (kyC x) cur w hlt (by decide) hnc (by omega) (by omega) hfl rfl hb (blk_cell hB') hg h1c (kyC_one x)).mono fun e w' h => ?_
      obtain ⟨G, ROW, hG, hR, hT, rfl, rfl⟩ := h
      obtain ⟨h1, h2⟩ := blk_new (T := 62) (w := w) hT hfl (Nat.le_of_lt hlt) (show (kyC x).length = 6 from rfl) hG hR
      rw [flat_ins] at h1
      exact ⟨_, rfl, h1.mono hM, h2.os, h2.tape, h2.output, h2.size, fun j hj _ => h2.block j hj⟩
  · obtain rfl : k = S.length := by omega
    refine (insert_end M v S.length _ g x hn w hM hB hg).mono fun e w' h => ?_
    obtain ⟨v', rfl, h1, h2⟩ := h
    refine ⟨v', rfl, ?_, h2⟩
    rw [List.take_of_length_le (Nat.le_refl _), List.drop_of_length_le (Nat.le_refl _)]
    rw [rw.flat_snoc]
    exact h1
end Go.Proofs.YtpfhhaonfbfheaaGreatDoor.ky
