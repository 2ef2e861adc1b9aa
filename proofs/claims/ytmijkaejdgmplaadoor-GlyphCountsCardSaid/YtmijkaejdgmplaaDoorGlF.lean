/- Folding: a plain function of bytes; glyph.Fold and the reference's Fold return it. Conditions: the tables hold what the text lays; the text is no longer than 2147483647 bytes. -/
import Derived.Test.YtmijkaejdgmplaaDoorGlM
namespace Go.Proofs.YtmijkaejdgmplaaDoor.gl
open Go.ChangeShapes Go.WideShapes Go.ChangeAt Go.RowKit

def foldB (b : UInt8) : UInt8 := if 65 ≤ b.toNat ∧ b.toNat ≤ 90 then UInt8.ofNat (b.toNat + 32) else b
def foldL (l : List UInt8) : List UInt8 := l.map foldB
theorem foldB_great {b : UInt8} (h : 65 ≤ b.toNat ∧ b.toNat ≤ 90) : ((foldB b).toNat : Int) = b.toNat + 32 := by
  unfold foldB
  rw [if_pos h, UInt8.toNat_ofNat']
  omega
theorem foldB_other {b : UInt8} (h : ¬ (65 ≤ b.toNat ∧ b.toNat ≤ 90)) : foldB b = b := by unfold foldB; rw [if_neg h]
theorem cls_great (c : Int) : cls c = 2 ↔ 65 ≤ c ∧ c ≤ 90 := by
  unfold cls
  split
  · omega
  · split
    · omega
    · repeat (split; omega)
      omega
/-- The first k bytes have been folded. -/
def foldAt (k j : Nat) (b : UInt8) : UInt8 := if j < k then foldB b else b
structure Folds (w : World) (g k : Nat) (l : List UInt8) : Prop where
  cell : ∀ (j : Nat) (b : UInt8), l[j]? = some b → w.cell? ⟨g, j, none⟩ = some (.int .u8 ((foldAt k j b).toNat : Int))
  free : ∀ (j : Nat), j < l.length → w.frozen? ⟨g, j, none⟩ = false
theorem Folds.start {w : World} {g : Nat} {l : List UInt8} (h : Lies w g l) : Folds w g 0 l := ⟨fun j b hj => h.cell j b hj, h.free⟩
theorem Folds.below {w w' : World} {g k B : Nat} {l : List UInt8} (h : Folds w g k l) (hb : Below B w w') (hg : g < B) : Folds w' g k l :=
  ⟨fun j b hj => (hb.cell (p := ⟨g, j, none⟩) hg).trans (h.cell j b hj), fun j hj => (hb.frozen (p := ⟨g, j, none⟩) hg).trans (h.free j hj)⟩
theorem Folds.skip {w : World} {g k : Nat} {l : List UInt8} {b : UInt8} (h : Folds w g k l) (hb : l[k]? = some b) (hf : foldB b = b) : Folds w g (k + 1) l := by
  refine ⟨fun j c hj => ?_, h.free⟩
  rw [h.cell j c hj]
  unfold foldAt
  by_cases h1 : j < k
  · rw [if_pos h1, if_pos (by omega)]
  · rw [if_neg h1]
    by_cases h2 : j < k + 1
    · obtain rfl : j = k := by omega
      rw [hb] at hj
      obtain rfl := Option.some.inj hj
      rw [if_pos h2, hf]
    · rw [if_neg h2]
theorem Folds.set {w : World} {g k : Nat} {l : List UInt8} {b : UInt8} {n : Int} (h : Folds w g k l) (hb : l[k]? = some b) (hn : n = ((foldB b).toNat : Int)) : Folds (w.setCell ⟨g, k, none⟩ (.int .u8 n)) g (k + 1) l := by
  subst hn
  refine ⟨fun j c hj => ?_, fun j hj => by rw [World.frozen?_setCell]; exact h.free j hj⟩
  by_cases h1 : j = k
  · subst h1
    rw [hb] at hj
    obtain rfl := Option.some.inj hj
    rw [World.cell?_setCell_same w _ _ (h.cell j b hb)]
    unfold foldAt
    rw [if_pos (by omega)]
  · rw [World.cell?_setCell_other w _ _ _ (by intro e; injection e with _ e2 _; exact h1 e2.symm), h.cell j c hj]
    unfold foldAt
    by_cases h2 : j < k
    · rw [if_pos h2, if_pos (by omega)]
    · rw [if_neg h2, if_neg (by omega)]
theorem Folds.done {w : World} {g : Nat} {l : List UInt8} (h : Folds w g l.length l) : ∀ (j : Nat) (b : UInt8), (foldL l)[j]? = some b → w.cell? ⟨g, j, none⟩ = some (.int .u8 (b.toNat : Int)) := by
  intro j b hj
  simp only [foldL, List.getElem?_map, Option.map_eq_some_iff] at hj
  obtain ⟨c, hc, rfl⟩ := hj
  rw [h.cell j c hc]
  unfold foldAt
  rw [if_pos (lt_of_get hc)]
theorem foldL_length (l : List UInt8) : (foldL l).length = l.length := by simp [foldL]

set_option maxHeartbeats 2000000 in
theorem Fold_any (s : ByteArray) (hs : s.size ≤ 2147483647) (w : World) (hG : Glo w) :
    Calls Tryd.prog 38 #[.string s] w fun e w' => e = .returned (.string ⟨(foldL s.data.toList).toArray⟩) ∧ Below w.heap.size w w' := by
  have HG := Lib.hid hG
  clear hG
  go_enter Tryd.func38, Tryd.ntmps38
  go_wp2_with (with_reducible refine wpList_bytes_of_string rfl 9 62 5 _ rfl s rfl Tryd.underlying9 Tryd.underlying62 Tryd.underlying5 ?_)
  intro bcap w2 hlies hb2 hzz hcap
  have HL := Lib.hid (Folds.start hlies)
  have HB2 := Lib.hid hb2
  have hsz2 := hb2.size
  clear hlies hb2
  go_wp2_with fail
  go_loopw [10] (fun i wr => ∃ k : Nat, k ≤ s.size ∧ i = .int .i64 k ∧ Folds wr w.heap.size k s.data.toList ∧ Below w.heap.size w wr ∧ w.heap.size < wr.heap.size) (fun i _ => s.size - (intOf i).toNat)
  case atStart => exact ⟨0, by omega, rfl, HL.out, HB2.out, hzz⟩
  case round =>
    obtain ⟨k, hk, rfl, hfo, hb, hlt0⟩ := hrel
    have Hfo := Lib.hid hfo
    have Hb := Lib.hid hb
    have hsz := hb.size
    have HG1 := Lib.hid (HG.out.below hb (Nat.le_refl _))
    clear hfo hb
    by_cases hlt : k < s.size
    · obtain ⟨b, hbl, _, hb0, hb1⟩ := byteAt s k hlt
      have hcell : wr.cell? ⟨w.heap.size, k, none⟩ = some (.int .u8 (b.toNat : Int)) := by
        rw [Hfo.out.cell k b hbl]; unfold foldAt; rw [if_neg (by omega)]
      have Hbl := Lib.hid hbl
      clear hbl
      by_cases hg : 65 ≤ b.toNat ∧ b.toNat ≤ 90
      · have h2 : (cls b.toNat == 2) = true := by rw [(cls_great _).2 (by omega)]; rfl
        have Hf := Lib.hid (foldB_great hg)
        obtain ⟨g1, g2⟩ := hg
        have g1' : (65 : Int) ≤ (b.toNat : Int) := by omega
        have g2' : (b.toNat : Int) ≤ 90 := by omega
        clear g1 g2
        go_wp2_with fail
        refine (class_any _ hb0 hb1 _ HG1.out).mono ?_
        rintro e w3 ⟨rfl, hb3⟩
        have hc3 : w3.cell? ⟨w.heap.size, k, none⟩ = some (.int .u8 (b.toNat : Int)) := (hb3.cell (p := ⟨w.heap.size, k, none⟩) hlt0).trans hcell
        have hfz : w3.frozen? ⟨w.heap.size, k, none⟩ = false := (Hfo.out.below hb3 hlt0).free k (by simpa using hlt)
        have HF3 := Lib.hid ((Hfo.out.below hb3 hlt0).set (n := (b.toNat : Int) - 65 + 97) Hbl.out (by rw [Hf.out]; omega))
        have HB3 := Lib.hid ((Hb.out.trans (hb3.mono hsz)).setCell (p := ⟨w.heap.size, k, none⟩) (Nat.le_refl _) (.int .u8 ((b.toNat : Int) - 65 + 97)))
        have hsz3 := hb3.size
        clear hb3
        go_wp2_with fail
        go_roundw
        case rel => exact ⟨k + 1, by omega, by go_num, HF3.out, HB3.out, by simp; omega⟩
        case measure => simp [intOf]; omega
      · have h2 : (cls b.toNat == 2) = false := by
          simp only [beq_eq_false_iff_ne]
          intro e
          have := (cls_great _).1 e
          omega
        have Hf := Lib.hid (foldB_other hg)
        clear hg
        go_wp2_with fail
        refine (class_any _ hb0 hb1 _ HG1.out).mono ?_
        rintro e w3 ⟨rfl, hb3⟩
        have HF3 := Lib.hid ((Hfo.out.below hb3 hlt0).skip Hbl.out Hf.out)
        have HB3 := Lib.hid (Hb.out.trans (hb3.mono hsz))
        have hsz3 := hb3.size
        clear hb3
        go_wp2_with fail
        go_roundw
        case rel => exact ⟨k + 1, by omega, by go_num, HF3.out, HB3.out, by omega⟩
        case measure => simp [intOf]; omega
    · obtain rfl : k = s.size := by omega
      have hd : ∀ (j : Nat) (b : UInt8), (foldL s.data.toList)[j]? = some b → wr.cell? ⟨w.heap.size, j, none⟩ = some (.int .u8 (b.toNat : Int)) := Folds.done (by simpa using Hfo.out)
      have Hd := Lib.hid hd
      have Hlen : Hid ((foldL s.data.toList).length = s.size) := by show _ = _; rw [foldL_length]; simp
      clear hd
      go_wp2_with (with_reducible refine wpList_string_of_lies rfl 62 9 5 _ rfl w.heap.size s.size _ _ Hlen.out rfl Tryd.underlying62 Tryd.underlying5 Tryd.underlying9 Hd.out ?_)
      go_ret
      exact ⟨rfl, Hb.out⟩

set_option maxHeartbeats 2000000 in
theorem refFold_any (s : ByteArray) (hs : s.size ≤ 2147483647) (w : World) :
    Calls Tryd.prog 44 #[.string s] w fun e w' => e = .returned (.string ⟨(foldL s.data.toList).toArray⟩) ∧ Below w.heap.size w w' := by
  go_enter Tryd.func44, Tryd.ntmps44
  go_wp2_with (with_reducible refine wpList_bytes_of_string rfl 9 62 5 _ rfl s rfl Tryd.underlying9 Tryd.underlying62 Tryd.underlying5 ?_)
  intro bcap w2 hlies hb2 hzz hcap
  have HL := Lib.hid (Folds.start hlies)
  have HB2 := Lib.hid hb2
  have hsz2 := hb2.size
  clear hlies hb2
  go_wp2_with fail
  go_loopw [4] (fun i wr => ∃ k : Nat, k ≤ s.size ∧ i = .int .i64 k ∧ Folds wr w.heap.size k s.data.toList ∧ Below w.heap.size w wr ∧ w.heap.size < wr.heap.size) (fun i _ => s.size - (intOf i).toNat)
  case atStart => exact ⟨0, by omega, rfl, HL.out, HB2.out, hzz⟩
  case round =>
    obtain ⟨k, hk, rfl, hfo, hb, hlt0⟩ := hrel
    have Hfo := Lib.hid hfo
    have Hb := Lib.hid hb
    have hsz := hb.size
    clear hfo hb
    by_cases hlt : k < s.size
    · obtain ⟨b, hbl, _, hb0, hb1⟩ := byteAt s k hlt
      have hcell : wr.cell? ⟨w.heap.size, k, none⟩ = some (.int .u8 (b.toNat : Int)) := by
        rw [Hfo.out.cell k b hbl]; unfold foldAt; rw [if_neg (by omega)]
      have hfz : wr.frozen? ⟨w.heap.size, k, none⟩ = false := Hfo.out.free k (by simpa using hlt)
      have Hbl := Lib.hid hbl
      clear hbl
      by_cases hg : 65 ≤ b.toNat ∧ b.toNat ≤ 90
      · have Hf := Lib.hid (foldB_great hg)
        obtain ⟨g1, g2⟩ := hg
        have g1' : (65 : Int) ≤ (b.toNat : Int) := by omega
        have g2' : (b.toNat : Int) ≤ 90 := by omega
        have HF3 := Lib.hid (Hfo.out.set (n := (b.toNat : Int) + 32) Hbl.out (by rw [Hf.out]))
        have HB3 := Lib.hid (Hb.out.setCell (p := ⟨w.heap.size, k, none⟩) (Nat.le_refl _) (.int .u8 ((b.toNat : Int) + 32)))
        clear g1 g2
        go_wp2_with fail
        go_roundw
        case rel => exact ⟨k + 1, by omega, by go_num, HF3.out, HB3.out, by simp; omega⟩
        case measure => simp [intOf]; omega
      · have Hf := Lib.hid (foldB_other hg)
        have HF3 := Lib.hid (Hfo.out.skip Hbl.out Hf.out)
        rcases (show (b.toNat : Int) < 65 ∨ (90 : Int) < (b.toNat : Int) by omega) with hg' | hg'
        all_goals
          clear hg
          go_wp2_with fail
          go_roundw
          case rel => exact ⟨k + 1, by omega, by go_num, HF3.out, Hb.out, by omega⟩
          case measure => simp [intOf]; omega
    · obtain rfl : k = s.size := by omega
      have hd : ∀ (j : Nat) (b : UInt8), (foldL s.data.toList)[j]? = some b → wr.cell? ⟨w.heap.size, j, none⟩ = some (.int .u8 (b.toNat : Int)) := Folds.done (by simpa using Hfo.out)
      have Hd := Lib.hid hd
      have Hlen : Hid ((foldL s.data.toList).length = s.size) := by show _ = _; rw [foldL_length]; simp
      clear hd
      go_wp2_with (with_reducible refine wpList_string_of_lies rfl 62 9 5 _ rfl w.heap.size s.size _ _ Hlen.out rfl Tryd.underlying62 Tryd.underlying5 Tryd.underlying9 Hd.out ?_)
      go_ret
      exact ⟨rfl, Hb.out⟩
end Go.Proofs.YtmijkaejdgmplaaDoor.gl
