/- tinderboxlaw03.awake returns true. Condition: the variable errors.errorType holds what the program's text lays. -/
import Derived.Test.YtmijkaejdgmplaaDoorCoL
namespace Go.Proofs.YtmijkaejdgmplaaDoor.co
open Go.ChangeShapes Go.WideShapes Go.ChangeAt Go.RowKit

/-- A Writer, a Reader and a Writer of the call's own. -/
def Tri (w0 w : World) (b1 b2 b3 : Nat) (s : Wst) (r : Rst) (v : Wst) : Prop :=
  ∃ S1 S2 S3, IsW w b1 s S1 ∧ IsR w b2 r S2 ∧ IsW w b3 v S3 ∧ Apart S1 S2 ∧ Apart S1 S3 ∧ Apart S2 S3 ∧ (∀ k ∈ S1 ++ S2 ++ S3, w0.heap.size ≤ k) ∧ Below w0.heap.size w0 w
theorem Tri.step1 {w0 w w' : World} {b1 b2 b3 : Nat} {s' : Wst} {r : Rst} {v : Wst} {S1 S2 S3 : List Nat} (h2 : IsR w b2 r S2) (h3 : IsW w b3 v S3) (a12 : Apart S1 S2) (a13 : Apart S1 S3) (a23 : Apart S2 S3)
    (hB : ∀ k ∈ S1 ++ S2 ++ S3, w0.heap.size ≤ k) (hb : Below w0.heap.size w0 w) (hm : Moves S1 w w' (IsW w' b1 s')) : Tri w0 w' b1 b2 b3 s' r v := by
  obtain ⟨S', h, hu, hS⟩ := hm
  refine ⟨S', S2, S3, h, h2.kept hu a12.symm, h3.kept hu a13.symm, a12.moved h2.lt hS, a13.moved h3.lt hS, a23, fun k hk => ?_, hb.trans (hu.below (fun k hk => hB k (by simp [hk])) hb.size)⟩
  rcases List.mem_append.1 hk with hk | hk
  · rcases List.mem_append.1 hk with hk | hk
    · rcases hS k hk with h | h
      · exact hB k (by simp [h])
      · exact Nat.le_trans hb.size h
    · exact hB k (by simp [hk])
  · exact hB k (by simp [hk])
theorem Tri.step2 {w0 w w' : World} {b1 b2 b3 : Nat} {s : Wst} {r' : Rst} {v : Wst} {S1 S2 S3 : List Nat} (h1 : IsW w b1 s S1) (h3 : IsW w b3 v S3) (a12 : Apart S1 S2) (a13 : Apart S1 S3) (a23 : Apart S2 S3)
    (hB : ∀ k ∈ S1 ++ S2 ++ S3, w0.heap.size ≤ k) (hb : Below w0.heap.size w0 w) (hm : Moves S2 w w' (IsR w' b2 r')) : Tri w0 w' b1 b2 b3 s r' v := by
  obtain ⟨S', h, hu, hS⟩ := hm
  refine ⟨S1, S', S3, h1.kept hu a12, h, h3.kept hu a23.symm, (a12.symm.moved h1.lt hS).symm, a13, a23.moved h3.lt hS, fun k hk => ?_, hb.trans (hu.below (fun k hk => hB k (by simp [hk])) hb.size)⟩
  rcases List.mem_append.1 hk with hk | hk
  · rcases List.mem_append.1 hk with hk | hk
    · exact hB k (by simp [hk])
    · rcases hS k hk with h | h
      · exact hB k (by simp [h])
      · exact Nat.le_trans hb.size h
  · exact hB k (by simp [hk])
theorem Tri.step3 {w0 w w' : World} {b1 b2 b3 : Nat} {s : Wst} {r : Rst} {v' : Wst} {S1 S2 S3 : List Nat} (h1 : IsW w b1 s S1) (h2 : IsR w b2 r S2) (a12 : Apart S1 S2) (a13 : Apart S1 S3) (a23 : Apart S2 S3)
    (hB : ∀ k ∈ S1 ++ S2 ++ S3, w0.heap.size ≤ k) (hb : Below w0.heap.size w0 w) (hm : Moves S3 w w' (IsW w' b3 v')) : Tri w0 w' b1 b2 b3 s r v' := by
  obtain ⟨S', h, hu, hS⟩ := hm
  refine ⟨S1, S2, S', h1.kept hu a13, h2.kept hu a23, h, a12, (a13.symm.moved h1.lt hS).symm, (a23.symm.moved h2.lt hS).symm, fun k hk => ?_, hb.trans (hu.below (fun k hk => hB k (by simp [hk])) hb.size)⟩
  rcases List.mem_append.1 hk with hk | hk
  · rcases List.mem_append.1 hk with hk | hk
    · exact hB k (by simp [hk])
    · exact hB k (by simp [hk])
  · rcases hS k hk with h | h
    · exact hB k (by simp [h])
    · exact Nat.le_trans hb.size h
theorem Tri.below {w0 w w' : World} {b1 b2 b3 : Nat} {s : Wst} {r : Rst} {v : Wst} (h : Tri w0 w b1 b2 b3 s r v) (hb : Below w.heap.size w w') : Tri w0 w' b1 b2 b3 s r v := by
  obtain ⟨S1, S2, S3, h1, h2, h3, a12, a13, a23, hB, hb0⟩ := h
  exact ⟨S1, S2, S3, h1.below hb, h2.below hb, h3.below hb, a12, a13, a23, hB, hb0.trans (hb.mono hb0.size)⟩
theorem Tri.reg {w0 w : World} {b1 b2 b3 : Nat} {s : Wst} {r : Rst} {v : Wst} (h : Tri w0 w b1 b2 b3 s r v) (hg : Reg w0) : Reg w := by
  obtain ⟨S1, S2, S3, h1, h2, h3, a12, a13, a23, hB, hb0⟩ := h
  exact hg.below hb0
theorem tri_new {w0 w1 w2 w3 : World} {b1 b2 b3 : Nat} {s : Wst} {r : Rst} {v : Wst} (e1 : b1 = w0.heap.size) (e2 : b2 = w1.heap.size) (e3 : b3 = w2.heap.size) (h1 : IsW w1 b1 s [b1]) (hb1 : Below w0.heap.size w0 w1) (h2 : IsR w2 b2 r [b2]) (hb2 : Below w1.heap.size w1 w2) (h3 : IsW w3 b3 v [b3]) (hb3 : Below w2.heap.size w2 w3) : Tri w0 w3 b1 b2 b3 s r v := by
  have l1 := h1.lt b1 (by simp)
  have l2 := h2.lt b2 (by simp)
  refine ⟨[b1], [b2], [b3], (h1.below hb2).below hb3, h2.below hb3, h3, ?_, ?_, ?_, ?_, (hb1.trans (hb2.mono hb1.size)).trans (hb3.mono (Nat.le_trans hb1.size hb2.size))⟩
  · intro k hk; simp only [List.mem_singleton] at *; omega
  · intro k hk; simp only [List.mem_singleton] at *; have := hb2.size; omega
  · intro k hk; simp only [List.mem_singleton] at *; omega
  · intro k hk
    have := hb1.size
    have := hb2.size
    simp only [List.cons_append, List.nil_append, List.mem_cons, List.not_mem_nil, or_false] at hk
    omega

theorem row300 : rowL 300 = [172, 2] := by rw [rowL_great (by omega), rowL_small (by omega)]; rfl
theorem row2 : rowL 2 = [2] := by rw [rowL_small (by omega)]; rfl
theorem row0 : rowL 0 = [0] := by rw [rowL_small (by omega)]; rfl
theorem st1 : (⟨[], 20, 0⟩ : Wst).num 300 = ⟨[172, 2], 20, 0⟩ := by
  unfold Wst.num
  rw [if_neg (by omega), show (300 : Int).toNat = 300 from rfl, row300]; rfl
theorem st2 : (⟨[172, 2], 20, 0⟩ : Wst).text [97, 98] = ⟨[172, 2, 2, 97, 98], 20, 0⟩ := by
  unfold Wst.text
  rw [if_neg (by simp), show ([97, 98] : List UInt8).length = 2 from rfl, row2]; rfl
theorem st3 : (⟨[172, 2, 2, 97, 98], 20, 0⟩ : Wst).num 0 = ⟨[172, 2, 2, 97, 98, 0], 20, 0⟩ := by
  unfold Wst.num
  rw [if_neg (by omega), show (0 : Int).toNat = 0 from rfl, row0]; rfl
theorem sv1 : (⟨[], 3, 0⟩ : Wst).num 300 = ⟨[172, 2], 3, 0⟩ := by
  unfold Wst.num
  rw [if_neg (by omega), show (300 : Int).toNat = 300 from rfl, row300]; rfl
theorem sv2 : (⟨[172, 2], 3, 0⟩ : Wst).num 300 = ⟨[172, 2], 3, 31⟩ := by
  unfold Wst.num
  rw [if_neg (by omega), show (300 : Int).toNat = 300 from rfl, row300]; rfl
theorem rt1 : (⟨[172, 2, 3, 97], 0⟩ : Rst).num = (300, ⟨[3, 97], 0⟩) := rfl
theorem rt2 : (⟨[3, 97], 0⟩ : Rst).text 3 = ([], ⟨[97], 32⟩) := rfl

theorem lit_size (l : List UInt8) (n : Nat) (h : l.length = n) : (⟨l.toArray⟩ : ByteArray).size = n := h
set_option maxHeartbeats 4000000 in
set_option maxRecDepth 100000 in
theorem awake_any (w : World) (hg : Reg w) : Calls Tryd.prog 12 #[] w fun e w' => e = .returned (.bool true) ∧ Below w.heap.size w w' := by
  have Hg := Lib.hid hg
  clear hg
  go_enter Tryd.func12, Tryd.ntmps12
  go_wp2_with fail
  refine (NewWriter_any 20 _).mono ?_
  rintro e w1 ⟨rfl, hn1, hb1⟩
  have HN1 := Lib.hid hn1
  have HB1 := Lib.hid hb1
  clear hn1 hb1
  go_wp2_with fail
  refine (NewReader_any ⟨#[172, 2, 3, 97]⟩ _).mono ?_
  rintro e w2 ⟨rfl, hn2, hb2⟩
  have HN2 := Lib.hid hn2
  have HB2 := Lib.hid hb2
  clear hn2 hb2
  go_wp2_with fail
  refine (NewWriter_any 3 _).mono ?_
  rintro e w3 ⟨rfl, hn3, hb3⟩
  have HT3 := Lib.hid (tri_new (b1 := w.heap.size) (b2 := w1.heap.size) (b3 := w2.heap.size) rfl rfl rfl HN1.out HB1.out HN2.out HB2.out hn3 hb3)
  clear hn3 hb3
  rw [show (20 : Int).toNat = 20 from rfl, show (3 : Int).toNat = 3 from rfl] at HT3
  go_wp2_with fail
  obtain ⟨S1, S2, S3, h1, h2, h3, a12, a13, a23, hB, hb⟩ := HT3.out
  refine (Num_any _ 300 (by decide) _ S1 _ h1 (by decide) (by unfold Wst.ok; decide) (by decide)).mono ?_
  rintro e w4 ⟨rfl, hM⟩
  have HT4 := Lib.hid (Tri.step1 h2 h3 a12 a13 a23 hB hb hM)
  clear h1 h2 h3 a12 a13 a23 hB hb hM
  rw [st1] at HT4
  go_wp2_with fail
  obtain ⟨S1, S2, S3, h1, h2, h3, a12, a13, a23, hB, hb⟩ := HT4.out
  refine (Text_any _ ⟨#[97, 98]⟩ _ S1 _ (by decide) h1 (by decide) (by unfold Wst.ok; decide) (by decide)).mono ?_
  rintro e w5 ⟨rfl, hM⟩
  have HT5 := Lib.hid (Tri.step1 h2 h3 a12 a13 a23 hB hb hM)
  clear h1 h2 h3 a12 a13 a23 hB hb hM
  rw [show ((⟨#[97, 98]⟩ : ByteArray).data.toList) = [97, 98] from rfl, st2] at HT5
  go_wp2_with fail
  obtain ⟨S1, S2, S3, h1, h2, h3, a12, a13, a23, hB, hb⟩ := HT5.out
  refine (Num_any _ 0 (by decide) _ S1 _ h1 (by decide) (by unfold Wst.ok; decide) (by decide)).mono ?_
  rintro e w6 ⟨rfl, hM⟩
  have HT6 := Lib.hid (Tri.step1 h2 h3 a12 a13 a23 hB hb hM)
  clear h1 h2 h3 a12 a13 a23 hB hb hM
  rw [st3] at HT6
  go_wp2_with fail
  obtain ⟨S1, S2, S3, h1, h2, h3, a12, a13, a23, hB, hb⟩ := HT6.out
  refine (Done_any _ _ S1 _ (HT6.out.reg Hg.out) h1).mono ?_
  rintro e w7 ⟨rfl, hb'⟩
  have HT7 := Lib.hid (HT6.out.below hb')
  rw [show (⟨[172, 2, 2, 97, 98, 0], 20, 0⟩ : Wst).done = ([172, 2, 2, 97, 98, 0], 0) from rfl]
  clear h1 h2 h3 a12 a13 a23 hB hb hb'
  go_wp2_with fail
  obtain ⟨S1, S2, S3, h1, h2, h3, a12, a13, a23, hB, hb⟩ := HT7.out
  refine (RNum_any _ _ S2 _ (by decide) h2).mono ?_
  rintro e w8 ⟨rfl, hM⟩
  have HT8 := Lib.hid (Tri.step2 h1 h3 a12 a13 a23 hB hb hM)
  clear h1 h2 h3 a12 a13 a23 hB hb hM
  rw [rt1] at HT8
  rw [rt1]
  go_wp2_with fail
  obtain ⟨S1, S2, S3, h1, h2, h3, a12, a13, a23, hB, hb⟩ := HT8.out
  refine (RText_any _ 3 _ S2 _ (by decide) h2).mono ?_
  rintro e w9 ⟨rfl, hM⟩
  have HT9 := Lib.hid (Tri.step2 h1 h3 a12 a13 a23 hB hb hM)
  clear h1 h2 h3 a12 a13 a23 hB hb hM
  rw [rt2] at HT9
  rw [rt2]
  go_wp2_with fail
  obtain ⟨S1, S2, S3, h1, h2, h3, a12, a13, a23, hB, hb⟩ := HT9.out
  refine (RLeft_any _ _ S2 _ h2).mono ?_
  rintro e w10 ⟨rfl, rfl⟩
  rw [show (⟨[97], 32⟩ : Rst).left = 0 from rfl]
  clear h1 h2 h3 a12 a13 a23 hB hb
  go_wp2_with fail
  obtain ⟨S1, S2, S3, h1, h2, h3, a12, a13, a23, hB, hb⟩ := HT9.out
  refine (RDone_any _ _ S2 _ (HT9.out.reg Hg.out) h2).mono ?_
  rintro e w10 ⟨rfl, hb'⟩
  have HT10 := Lib.hid (HT9.out.below hb')
  rw [show (⟨[97], 32⟩ : Rst).done = 32 from rfl]
  clear h1 h2 h3 a12 a13 a23 hB hb hb'
  go_wp2_with fail
  obtain ⟨S1, S2, S3, h1, h2, h3, a12, a13, a23, hB, hb⟩ := HT10.out
  refine (Num_any _ 300 (by decide) _ S3 _ h3 (by decide) (by unfold Wst.ok; decide) (by decide)).mono ?_
  rintro e w11 ⟨rfl, hM⟩
  have HT11 := Lib.hid (Tri.step3 h1 h2 a12 a13 a23 hB hb hM)
  clear h1 h2 h3 a12 a13 a23 hB hb hM
  rw [sv1] at HT11
  go_wp2_with fail
  obtain ⟨S1, S2, S3, h1, h2, h3, a12, a13, a23, hB, hb⟩ := HT11.out
  refine (Num_any _ 300 (by decide) _ S3 _ h3 (by decide) (by unfold Wst.ok; decide) (by decide)).mono ?_
  rintro e w12 ⟨rfl, hM⟩
  have HT12 := Lib.hid (Tri.step3 h1 h2 a12 a13 a23 hB hb hM)
  clear h1 h2 h3 a12 a13 a23 hB hb hM
  rw [sv2] at HT12
  go_wp2_with fail
  obtain ⟨S1, S2, S3, h1, h2, h3, a12, a13, a23, hB, hb⟩ := HT12.out
  refine (Done_any _ _ S3 _ (HT12.out.reg Hg.out) h3).mono ?_
  rintro e w13 ⟨rfl, hb'⟩
  have HT13 := Lib.hid (HT12.out.below hb')
  rw [show (⟨[172, 2], 3, 31⟩ : Wst).done = ([], 31) from rfl]
  clear h1 h2 h3 a12 a13 a23 hB hb hb'
  go_wp2_with fail
  go_ret
  refine ⟨rfl, ?_⟩
  obtain ⟨_, _, _, _, _, _, _, _, _, _, hb⟩ := HT13.out
  exact hb
end Go.Proofs.YtmijkaejdgmplaaDoor.co
