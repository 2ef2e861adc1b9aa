/- Package key: what a definition must be; where a name stands. Conditions: texts of at most 2147483647 bytes; the listed variables hold what the program's text lays. -/
import Derived.Test.YtpfhhaonfbfheaaGreatDoorKyF
import Derived.Test.YtpfhhaonfbfheaaGreatDoorKyD
import Derived.Test.YtpfhhaonfbfheaaGreatDoorGlM
import Derived.Test.YtpfhhaonfbfheaaGreatDoorVaL
import Derived.OwnWalk
namespace Go.Proofs.YtpfhhaonfbfheaaGreatDoor.ky
open Go.ChangeShapes Go.WideShapes Go.ChangeAt Go.RowKit gl va ls

set_option maxHeartbeats 1000000 in
theorem bounds_any (k : Int) (w : World) : Calls Tryz.prog 91 #[.int .i64 k] w fun e w' => e = .returned (.tuple #[.int .i64 (bndL k).1, .int .i64 (bndL k).2.1, .bool (bndL k).2.2]) ∧ w' = w := by
  by_cases h2 : k = 2
  · subst h2
    go_enter Tryz.func91, Tryz.ntmps91
    go_wp2_with fail
    go_ret3
    exact ⟨rfl, rfl⟩
  by_cases h3 : k = 3
  · subst h3
    go_enter Tryz.func91, Tryz.ntmps91
    go_wp2_with fail
    go_ret3
    exact ⟨rfl, rfl⟩
  by_cases h4 : k = 4
  · subst h4
    go_enter Tryz.func91, Tryz.ntmps91
    go_wp2_with fail
    go_ret3
    exact ⟨rfl, rfl⟩
  by_cases h6 : k = 6
  · subst h6
    go_enter Tryz.func91, Tryz.ntmps91
    go_wp2_with fail
    go_ret3
    exact ⟨rfl, rfl⟩
  have hb : bndL k = (0, 0, false) := by unfold bndL; rw [if_neg h2, if_neg h3, if_neg h4, if_neg h6]
  rw [hb]
  have q2 : (k == 2) = false := by simpa using h2
  have q3 : (k == 3) = false := by simpa using h3
  have q4 : (k == 4) = false := by simpa using h4
  have q6 : (k == 6) = false := by simpa using h6
  go_enter Tryz.func91, Tryz.ntmps91
  go_wp2_with fail
  go_ret3
  exact ⟨rfl, rfl⟩
theorem lit_eq (l : List UInt8) (m : List UInt8) : ((B l).toList == (⟨m.toArray⟩ : ByteArray).toList) = decide (l = m) := str_eq l m
set_option maxHeartbeats 2000000 in
set_option maxRecDepth 100000 in
theorem isLetter_any (l : List UInt8) (hs : l.length ≤ 2147483647) (w : World) : Calls Tryz.prog 90 #[.string (B l)] w fun e w' => e = .returned (.bool (letterL l)) ∧ w' = w := by
  match l with
  | [] =>
    go_enter Tryz.func90, Tryz.ntmps90
    go_wp2_with fail
    go_ret
    exact ⟨rfl, rfl⟩
  | [b] =>
    obtain ⟨s, hs'⟩ : ∃ s, s = B [b] := ⟨_, rfl⟩
    have hz : s.size = 1 := by rw [hs']; rfl
    have h0 : (s.toList == (⟨#[]⟩ : ByteArray).toList) = false := by rw [hs', show (⟨#[]⟩ : ByteArray) = ⟨([] : List UInt8).toArray⟩ from rfl, lit_eq]; simp
    have h1 : (s.toList == (⟨#[104]⟩ : ByteArray).toList) = decide (b = 104) := by rw [hs', show (⟨#[104]⟩ : ByteArray) = ⟨([104] : List UInt8).toArray⟩ from rfl, lit_eq]; simp
    have h2 : (s.toList != (⟨#[104]⟩ : ByteArray).toList) = !decide (b = 104) := by rw [bne, h1]
    have hb : ∀ h : 0 < s.size, ((s[0]'h).toNat : Int) = (b.toNat : Int) := fun h => by subst hs'; rfl
    rw [← hs']
    have hb0 : (0 : Int) ≤ (b.toNat : Int) := by omega
    have hb1 : (b.toNat : Int) ≤ 255 := by have := b.toNat_lt; omega
    have h104 : decide (b.toNat ≠ 104) = !decide (b = 104) := by
      by_cases h : b = 104
      · subst h; rfl
      · have hn : b.toNat ≠ 104 := fun e => h (UInt8.toNat_inj.1 (by rw [e]; rfl))
        simp [h, hn]
    have Hr : Hid (letterL [b] = (decide (97 ≤ b.toNat) && decide (b.toNat ≤ 122) && !decide (b = 104))) := Lib.hid (by
      show (decide (97 ≤ b.toNat) && decide (b.toNat ≤ 122) && decide (b.toNat ≠ 104)) = _
      rw [h104])
    have hi0 : (0 : Nat) < s.size := by omega
    have hbq := hb hi0
    have hemp : s.toList.isEmpty = false := by rw [hs', ByteArray.toList_eq]; rfl
    have h1b : (s.toList == [104]) = decide (b = 104) := by rw [← h1, show (⟨#[104]⟩ : ByteArray).toList = [104] by rw [ByteArray.toList_eq]]
    clear hs' h104 hs
    obtain ⟨c3, hc3⟩ : ∃ c3, decide (b = 104) = c3 := ⟨_, rfl⟩
    rw [hc3] at h1 h2 h1b Hr
    clear hc3 hb
    by_cases g1 : 97 ≤ b.toNat
    · have p1 : decide ((97 : Int) ≤ (b.toNat : Int)) = true := by simp; omega
      have p1' : (97 : Int) ≤ (b.toNat : Int) := by omega
      by_cases g2 : b.toNat ≤ 122
      · have p2 : decide ((b.toNat : Int) ≤ 122) = true := by simp; omega
        have p2' : (b.toNat : Int) ≤ 122 := by omega
        have e : letterL [b] = !c3 := by rw [Hr.out]; simp [g1, g2]
        rw [e]
        clear Hr e
        cases c3
        all_goals
          go_enter Tryz.func90, Tryz.ntmps90
          go_wp2_with fail
          go_ret
          exact ⟨rfl, rfl⟩
      · have p2 : decide ((b.toNat : Int) ≤ 122) = false := by simp; omega
        have p2' : ¬ (b.toNat : Int) ≤ 122 := by omega
        have e : letterL [b] = false := by rw [Hr.out]; simp [g2]
        rw [e]
        clear Hr e
        go_enter Tryz.func90, Tryz.ntmps90
        go_wp2_with fail
        go_ret
        exact ⟨rfl, rfl⟩
    · have p1 : decide ((97 : Int) ≤ (b.toNat : Int)) = false := by simp; omega
      have p1' : ¬ (97 : Int) ≤ (b.toNat : Int) := by omega
      have e : letterL [b] = false := by rw [Hr.out]; simp [g1]
      rw [e]
      clear Hr e
      go_enter Tryz.func90, Tryz.ntmps90
      go_wp2_with fail
      go_ret
      exact ⟨rfl, rfl⟩
  | a :: b :: r =>
    obtain ⟨s, hs'⟩ : ∃ s, s = B (a :: b :: r) := ⟨_, rfl⟩
    have hz : s.size = r.length + 2 := by rw [hs']; simp [ByteArray.size]
    have h0 : (s.toList == (⟨#[]⟩ : ByteArray).toList) = false := by rw [hs', show (⟨#[]⟩ : ByteArray) = ⟨([] : List UInt8).toArray⟩ from rfl, lit_eq]; simp
    have h1 : ((s.size : Int) == 1) = false := by rw [hz]; simp; omega
    have hemp : s.toList.isEmpty = false := by rw [hs', ByteArray.toList_eq]; rfl
    rw [← hs', show letterL (a :: b :: r) = false from rfl]
    clear hs' hz hs
    go_enter Tryz.func90, Tryz.ntmps90
    go_wp2_with fail
    go_ret
    exact ⟨rfl, rfl⟩
theorem form_bad {x : Ky} (h : nameL x.name = false ∨ letterL x.letter = false) : formL x = false := by
  unfold formL
  rcases h with h | h <;> simp [h]
theorem form_num {x : Ky} (h1 : nameL x.name = true) (h2 : letterL x.letter = true) (h3 : (bndL x.kind).2.2 = true) : formL x = (decide ((bndL x.kind).1 ≤ x.least) && (decide (x.least ≤ x.most) && decide (x.most ≤ (bndL x.kind).2.1))) := by
  unfold formL
  rw [h1, h2, if_pos h3, Bool.true_and, Bool.true_and, Bool.and_assoc]
theorem form_not {x : Ky} (h1 : nameL x.name = true) (h2 : letterL x.letter = true) (h3 : (bndL x.kind).2.2 = false) : formL x = (((x.kind == 1) || (x.kind == 5)) && ((x.least == 0) && (x.most == 0))) := by
  unfold formL
  rw [h1, h2, if_neg (by rw [h3]; simp), Bool.true_and, Bool.true_and, Bool.and_assoc]
  have e : ∀ a b : Int, decide (a = b) = (a == b) := fun a b => by rw [Bool.eq_iff_iff, decide_eq_true_iff, beq_iff_eq]
  rw [e, e, Bool.decide_or, e, e]
set_option maxHeartbeats 4000000 in
set_option maxRecDepth 100000 in
theorem formed_any (x : Ky) (hx : KyOk x) (w : World) (hG : Glo w) :
    Calls Tryz.prog 70 #[.agg #[.string (B x.name), .int .i64 x.kind, .string (B x.dflt), .int .i64 x.least, .int .i64 x.most, .string (B x.letter)]] w fun e w' => e = .returned (.bool (formL x)) ∧ Below w.heap.size w w' := by
  obtain ⟨wA, hA⟩ : ∃ wA, wA = w.alloc (.cells #[.string (B x.name), .int .i64 x.kind, .string (B x.dflt), .int .i64 x.least, .int .i64 x.most, .string (B x.letter)] 62) := ⟨_, rfl⟩
  have kA : wA.heap[w.heap.size]? = some (.cells #[.string (B x.name), .int .i64 x.kind, .string (B x.dflt), .int .i64 x.least, .int .i64 x.most, .string (B x.letter)] 62 (0, 0)) := by rw [hA]; exact heap_alloc_new w _
  have hbA : Below w.heap.size w wA := by rw [hA]; exact (Below.refl _ _).alloc (Nat.le_refl _) _
  have HN := Lib.hid (IsName_any (B x.name) (by rw [show (B x.name).size = x.name.length by simp [ByteArray.size]]; exact hx.1) wA (hG.below hbA (Nat.le_refl _)))
  rw [B_list] at HN
  have HL := Lib.hid fun W => isLetter_any x.letter hx.2.2.1 W
  have HBd := Lib.hid fun W => bounds_any x.kind W
  have F1 := Lib.hid (@form_bad x)
  have F2 := Lib.hid (@form_num x)
  have F3 := Lib.hid (@form_not x)
  have HkA := Lib.hid kA
  have HbA := Lib.hid hbA
  have HA := Lib.hid hA
  clear kA hbA hA hG hx
  generalize formL x = fx at *
  generalize nameL x.name = nn at *
  generalize letterL x.letter = ll at *
  generalize bndL x.kind = bd at *
  obtain ⟨lo, hi, bb⟩ := bd
  dsimp only at HBd F2 F3
  generalize B x.name = nm at *
  generalize B x.dflt = df at *
  generalize B x.letter = lt at *
  generalize x.kind = kk at *
  generalize x.least = le at *
  generalize x.most = mo at *
  go_enter Tryz.func70, Tryz.ntmps70
  go_wp2_with fail
  rw [← HA.out]
  refine HN.out.mono ?_
  rintro e w1 ⟨rfl, hb1⟩
  have Hb1 := Lib.hid (then_bel HbA.out hb1)
  have hk1 := (hb1.block _ (lt_of_block HkA.out)).trans HkA.out
  have a1 : w1.cell? ⟨w.heap.size, 1, none⟩ = some (.int .i64 kk) := cell_in hk1
  have a3 : w1.cell? ⟨w.heap.size, 3, none⟩ = some (.int .i64 le) := cell_in hk1
  have a4 : w1.cell? ⟨w.heap.size, 4, none⟩ = some (.int .i64 mo) := cell_in hk1
  have a5 : w1.cell? ⟨w.heap.size, 5, none⟩ = some (.string lt) := cell_in hk1
  have hgw1 : w.heap.size < w1.heap.size := lt_of_block hk1
  clear hb1 hk1
  cases nn with
  | false =>
    have hf := Lib.hid (F1.out (.inl rfl))
    go_wp2_with fail
    go_ret
    exact ⟨by rw [hf.out]; rfl, Hb1.out⟩
  | true =>
    go_wp2_with fail
    refine (HL.out _).mono ?_
    rintro e w0 ⟨rfl, hw0⟩
    obtain rfl : w1 = w0 := hw0.symm
    cases ll with
    | false =>
      have hf := Lib.hid (F1.out (.inr rfl))
      go_wp2_with fail
      go_ret
      exact ⟨by rw [hf.out]; rfl, Hb1.out⟩
    | true =>
      go_wp2_with fail
      refine (HBd.out _).mono ?_
      rintro e w0 ⟨rfl, hw0⟩
      obtain rfl : w1 = w0 := hw0.symm
      cases bb with
      | true =>
        have hf := Lib.hid (F2.out (by simp) (by simp) (by simp))
        obtain ⟨t1, ht1⟩ : ∃ t1, decide (lo ≤ le) = t1 := ⟨_, rfl⟩
        obtain ⟨t2, ht2⟩ : ∃ t2, decide (le ≤ mo) = t2 := ⟨_, rfl⟩
        obtain ⟨t3, ht3⟩ : ∃ t3, decide (mo ≤ hi) = t3 := ⟨_, rfl⟩
        rw [ht1, ht2, ht3] at hf
        cases t1 <;> cases t2 <;> cases t3
        all_goals
          go_wp2_with fail
          go_ret
          exact ⟨by rw [hf.out]; rfl, Hb1.out⟩
      | false =>
        have hf := Lib.hid (F3.out (by simp) (by simp) (by simp))
        obtain ⟨t1, ht1⟩ : ∃ t1, (kk == 1) = t1 := ⟨_, rfl⟩
        obtain ⟨t2, ht2⟩ : ∃ t2, (kk == 5) = t2 := ⟨_, rfl⟩
        obtain ⟨t3, ht3⟩ : ∃ t3, (le == 0) = t3 := ⟨_, rfl⟩
        obtain ⟨t4, ht4⟩ : ∃ t4, (mo == 0) = t4 := ⟨_, rfl⟩
        rw [ht1, ht2, ht3, ht4] at hf
        cases t1 <;> cases t2 <;> cases t3 <;> cases t4
        all_goals
          go_wp2_with fail
          go_ret
          exact ⟨by rw [hf.out]; rfl, Hb1.out⟩
end Go.Proofs.YtpfhhaonfbfheaaGreatDoor.ky
