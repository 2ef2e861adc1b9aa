/- tinderboxlaw04.ValueParses returns true. Conditions: the listed variables hold what the program's text lays. -/
import Derived.Test.YtkbamhecbfocbaaGreatDoorVbJ
import Derived.Deep.RegionHeld3
import Derived.Deep.DeepCutAuto
namespace Go.Proofs.YtkbamhecbfocbaaGreatDoor.va
open Go.ChangeShapes Go.WideShapes Go.ChangeAt Go.RowKit gl

theorem NewL.mono {B B' : Nat} {w : World} {R : LR} (h : NewL B w R) (hB : B' ≤ B) : NewL B' w R := by
  rcases h with h | ⟨g, cs, h1, h2, h3⟩
  · exact .inl h
  · exact .inr ⟨g, cs, h1, by omega, h3⟩
theorem adds_le' {n m : Int} (h0 : 0 ≤ n) (g0 : 0 ≤ m) (h : adds n m ≤ 2147483647) : n ≤ 2147483647 ∧ m ≤ 2147483647 := by
  unfold adds at h
  split at h <;> omega
def kkL (k : Int) : List Value := [.int .i64 k, .int .i64 k, .int .i64 6, .int .i64 6, .int .i64 k]
def ssL (s t : ByteArray) : List Value := [.string s, .string t, .string s, .string t, .string s]
theorem kk_at (k : Int) (j : Nat) (h : j < 5) : ∃ x : Int, (kkL k).toArray[j]? = some (.int .i64 x) := by
  rcases (show j = 0 ∨ j = 1 ∨ j = 2 ∨ j = 3 ∨ j = 4 by omega) with rfl | rfl | rfl | rfl | rfl <;> exact ⟨_, rfl⟩
theorem ss_at (s t : ByteArray) (hs : s.size ≤ 2147483647) (ht : t.size ≤ 2147483647) (j : Nat) (h : j < 5) : ∃ x : ByteArray, (ssL s t).toArray[j]? = some (.string x) ∧ x.size ≤ 2147483647 := by
  rcases (show j = 0 ∨ j = 1 ∨ j = 2 ∨ j = 3 ∨ j = 4 by omega) with rfl | rfl | rfl | rfl | rfl
  · exact ⟨s, rfl, hs⟩
  · exact ⟨t, rfl, ht⟩
  · exact ⟨s, rfl, hs⟩
  · exact ⟨t, rfl, ht⟩
  · exact ⟨s, rfl, hs⟩
/-- A value that came out, boxed in a block of its own. -/
def Got (wr wx : World) (v : Val) (fresh : Bool) (sv : Value) : Prop :=
  ∃ g p n c, sv = .pointer (some ⟨g, 0, none⟩) ∧ wx.heap[g]? = some (.cells #[.int .i64 v.kind, .int .i64 v.int, .string v.text, .slice p n c] 28 (0, 0)) ∧ SBs wx (.slice p n c) v.words ∧ (fresh = true → n = c ∧ NewL wr.heap.size wx ⟨p, n⟩) ∧ n = v.words.length

theorem undrew {w w1 : World} (h : Below w.drew.heap.size w.drew w1) : Below w.heap.size w w1 := ⟨h.os, h.tape, h.output, h.size, h.block⟩
def S3 (wr : World) (a b : Addr) (x y : Value) (w' : World) : Prop := w'.cell? a = some x ∧ w'.cell? b = some y ∧ Hid (Below wr.heap.size wr w')
theorem p3_drew {wr wp : World} {a b : Addr} {x y : Value} (h : wp.cell? a = some x ∧ wp.cell? b = some y ∧ Hid (Below wr.heap.size wr wp)) : wp.drew.cell? a = some x ∧ wp.drew.cell? b = some y ∧ Hid (Below wr.heap.size wr wp.drew) := ⟨h.1, h.2.1, Lib.hid h.2.2.out.drew⟩
theorem p3_call {wr wp w' : World} {a b : Addr} {x y : Value} (h : wp.cell? a = some x ∧ wp.cell? b = some y ∧ Hid (Below wr.heap.size wr wp)) (hb : Below wp.heap.size wp w') : w'.cell? a = some x ∧ w'.cell? b = some y ∧ Hid (Below wr.heap.size wr w') :=
  have k : ∀ {p : Addr} {x : Value}, wp.cell? p = some x → w'.cell? p = some x := fun hp => (hb.cell (World.block_lt_of_cell? _ _ hp)).trans hp
  ⟨k h.1, k h.2.1, Lib.hid (then_bel h.2.2.out hb)⟩
theorem p3_alloc {wr wp : World} {a b : Addr} {x y : Value} (o : Obj) (h : wp.cell? a = some x ∧ wp.cell? b = some y ∧ Hid (Below wr.heap.size wr wp)) : (wp.alloc o).cell? a = some x ∧ (wp.alloc o).cell? b = some y ∧ Hid (Below wr.heap.size wr (wp.alloc o)) := p3_call h ((Below.refl _ _).alloc (Nat.le_refl _) _)
theorem p3_set {wr wp : World} {a b p : Addr} {x y : Value} (v : Value) (ha : a.block < wr.heap.size) (hb : b.block < wr.heap.size) (hp : wr.heap.size ≤ p.block) (h : wp.cell? a = some x ∧ wp.cell? b = some y ∧ Hid (Below wr.heap.size wr wp)) : (wp.setCell p v).cell? a = some x ∧ (wp.setCell p v).cell? b = some y ∧ Hid (Below wr.heap.size wr (wp.setCell p v)) :=
  ⟨(World.cell?_of_block (Below.heap_setCell wp p v a.block (by omega))).trans h.1, (World.cell?_of_block (Below.heap_setCell wp p v b.block (by omega))).trans h.2.1, Lib.hid (h.2.2.out.setCell hp v)⟩
theorem p3_dalloc {wr wp : World} {a b : Addr} {x y : Value} (o : Obj) (h : wp.drew.cell? a = some x ∧ wp.drew.cell? b = some y ∧ Hid (Below wr.heap.size wr wp.drew)) : (wp.alloc o).drew.cell? a = some x ∧ (wp.alloc o).drew.cell? b = some y ∧ Hid (Below wr.heap.size wr (wp.alloc o).drew) :=
  p3_drew (p3_alloc o ⟨h.1, h.2.1, Lib.hid ⟨h.2.2.out.os, h.2.2.out.tape, h.2.2.out.output, h.2.2.out.size, h.2.2.out.block⟩⟩)
theorem p3_bel {wr wp : World} {a b : Addr} {x y : Value} (h : wp.cell? a = some x ∧ wp.cell? b = some y ∧ Hid (Below wr.heap.size wr wp)) : Below wr.heap.size wr wp := h.2.2.out

/-- The block that was laid ahead of the call is as it was. -/
def Old4 (b : Nat) (c0 c1 c2 c3 : Value) (w : World) : Prop := (w.cell? ⟨b, 0, none⟩ = some c0 ∧ w.cell? ⟨b, 1, none⟩ = some c1 ∧ w.cell? ⟨b, 2, none⟩ = some c2 ∧ w.cell? ⟨b, 3, none⟩ = some c3) ∧ (w.frozen? ⟨b, 0, none⟩ = false ∧ w.frozen? ⟨b, 1, none⟩ = false ∧ w.frozen? ⟨b, 2, none⟩ = false ∧ w.frozen? ⟨b, 3, none⟩ = false)
theorem old4 {w w1 : World} {a b c d : Value} {t : TypeId} (hb : Below (w.alloc (.cells #[a, b, c, d] t)).drew.heap.size (w.alloc (.cells #[a, b, c, d] t)).drew w1) : Old4 w.heap.size a b c d w1 := by
  obtain ⟨h1, h2⟩ := res_cells (undrew hb)
  exact ⟨h1, h2⟩

theorem SBs.shape {w : World} {p : Option Addr} {n c : Nat} {xs : List ByteArray} (h : SBs w (.slice p n c) xs) : n = xs.length := by
  obtain ⟨p', c', he, _⟩ := h
  cases he
  rfl
/-- What a call gave, boxed behind it. -/
theorem got_new {wr w' : World} {v : Val} {p : Option Addr} {n c : Nat} (f : Bool) (hs : SBs w' (.slice p n c) v.words) (hn : f = true → n = c ∧ NewL wr.heap.size w' ⟨p, n⟩) (hb : Below wr.heap.size wr w') :
    Got wr (w'.alloc (.cells #[.int .i64 v.kind, .int .i64 v.int, .string v.text, .slice p n c] 28)) v f (.pointer (some ⟨w'.heap.size, 0, none⟩)) ∧ Below wr.heap.size wr (w'.alloc (.cells #[.int .i64 v.kind, .int .i64 v.int, .string v.text, .slice p n c] 28)) := by
  have hk : SK w' (w'.alloc (.cells #[.int .i64 v.kind, .int .i64 v.int, .string v.text, .slice p n c] 28)) := SK.of_below ((Below.refl _ _).alloc (Nat.le_refl _) _)
  exact ⟨⟨w'.heap.size, p, n, c, rfl, heap_alloc_new w' _, hs.keep hk, fun h => ⟨(hn h).1, (hn h).2.keep hk⟩, hs.shape⟩, hb.alloc hb.size _⟩
/-- The same, boxed in a block that was laid before. -/
theorem got_set {wr w' W : World} {o : Obj} {v : Val} {p : Option Addr} {n c : Nat} (f : Bool) {z0 z1 z2 z3 : Value} (ho : o = .cells #[z0, z1, z2, z3] 28) (hs : SBs w' (.slice p n c) v.words) (hn : f = true → n = c ∧ NewL (wr.heap.size + 1) w' ⟨p, n⟩) (hb : Below (wr.alloc o).drew.heap.size (wr.alloc o).drew w')
    (hW : (((w'.setCell ⟨wr.heap.size, 0, none⟩ (.int .i64 v.kind)).setCell ⟨wr.heap.size, 1, none⟩ (.int .i64 v.int)).setCell ⟨wr.heap.size, 2, none⟩ (.string v.text)).setCell ⟨wr.heap.size, 3, none⟩ (.slice p n c) = W) :
    Got wr W v f (.pointer (some ⟨wr.heap.size, 0, none⟩)) ∧ Below wr.heap.size wr W := by
  subst ho
  have hb' := undrew hb
  have hblk : w'.heap[wr.heap.size]? = some (.cells #[z0, z1, z2, z3] 28 (0, 0)) := (hb'.block _ (by simp)).trans (heap_alloc_new wr _)
  obtain ⟨_, hsz, hoth, hbel⟩ := four_done hblk hW
  have hnew : W.heap[wr.heap.size]? = some (.cells #[.int .i64 v.kind, .int .i64 v.int, .string v.text, .slice p n c] 28 (0, 0)) := by
    rw [← hW]
    have h0 := heap_set (o := 0) hblk (.int .i64 v.kind)
    have h1 := heap_set (o := 1) h0 (.int .i64 v.int)
    have h2 := heap_set (o := 2) h1 (.string v.text)
    have h3 := heap_set (o := 3) h2 (.slice p n c)
    exact h3
  have hk : SK w' W := by
    intro g cs hg
    refine (hoth g ?_).trans hg
    exact ne_of_types hg hblk (by decide)
  have hbw : Below wr.heap.size wr w' := ((Below.refl _ _).alloc (Nat.le_refl _) _).trans (hb'.mono (by simp))
  exact ⟨⟨wr.heap.size, p, n, c, rfl, hnew, hs.keep hk, fun h => ⟨(hn h).1, ((hn h).2.keep hk).mono (by omega)⟩, hs.shape⟩, hbel _ _ hbw (Nat.le_refl _)⟩
theorem Got.later {wr w w' : World} {v : Val} {f : Bool} {sv : Value} (h : Got wr w v f sv) (hb : Below w.heap.size w w') : Got wr w' v f sv := by
  obtain ⟨g, p, n, c, h1, h2, h3, h4, h5⟩ := h
  have hk : SK w w' := SK.of_below hb
  exact ⟨g, p, n, c, h1, (hb.block g (lt_of_block h2)).trans h2, h3.keep hk, fun h => ⟨(h4 h).1, (h4 h).2.keep hk⟩, h5⟩

set_option maxHeartbeats 8000000 in
set_option maxRecDepth 100000 in
theorem valueParses_any (k : Int) (s : ByteArray) (hs : s.size ≤ 9223372036854775807) (t : ByteArray) (ht : t.size ≤ 9223372036854775807) (w : World) (hV : Vlo w) :
    Calls Tryz.prog 3 #[.int .i64 k, .string s, .string t] w fun e w' => e = .returned (.bool true) ∧ Below w.heap.size w w' := by
  have HV := Lib.hid hV
  obtain ⟨i0, hi, hz0, hz1, hz2⟩ := info_parts infoLs
  have HA := Lib.hid fun W => addsUp_any (s.size : Int) (t.size : Int) (by omega) (by omega) (by omega) (by omega) W
  have HL1 : Hid (adds (s.size : Int) (t.size : Int) ≤ 2147483647 → s.size ≤ 2147483647 ∧ t.size ≤ 2147483647) := Lib.hid fun h => by
    have := adds_le' (n := (s.size : Int)) (m := (t.size : Int)) (by omega) (by omega) h
    omega
  generalize adds (s.size : Int) (t.size : Int) = a1 at *
  clear hV
  go_enter Tryz.func3, Tryz.ntmps3
  go_wp2_with fail
  refine (HA.out _).mono ?_
  rintro e w0 ⟨rfl, hw0⟩
  obtain rfl : w = w0 := by first | exact hw0 | exact hw0.symm
  by_cases hbig : 2147483647 < a1
  · go_wp2_with fail
    go_ret
    exact ⟨rfl, Below.refl _ _⟩
  · obtain ⟨hs2, ht2⟩ := HL1.out (by omega)
    go_wp2_with fail
    refine (awake_any w HV.out).mono ?_
    rintro e w1 ⟨rfl, hb1⟩
    have Hb1 := Lib.hid hb1
    have HV1 := Lib.hid (HV.out.later hb1)
    clear hb1 HA HL1
    go_wp2_with fail
    obtain ⟨w2, hw2⟩ : ∃ w2, w2 = (w1.alloc (.cells (kkL k).toArray 3)).alloc (.cells (ssL s t).toArray 9) := ⟨_, rfl⟩
    have hw2' : (w1.alloc (.cells #[.int .i64 k, .int .i64 k, .int .i64 6, .int .i64 6, .int .i64 k] 3)).alloc (.cells #[.string s, .string t, .string s, .string t, .string s] 9) = w2 := hw2.symm
    rw [hw2']
    have HK2 : Hid (w2.heap[w1.heap.size]? = some (.cells (kkL k).toArray 3 (0, 0))) := Lib.hid (by rw [hw2]; exact heap_al (heap_alloc_new w1 _) _)
    have HS2 : Hid (w2.heap[w1.heap.size + 1]? = some (.cells (ssL s t).toArray 9 (0, 0))) := Lib.hid (by
      have := heap_alloc_new (w1.alloc (.cells (kkL k).toArray 3)) (.cells (ssL s t).toArray 9)
      rw [World.size_alloc] at this
      rw [hw2]; exact this)
    have Hb2 : Hid (Below w1.heap.size w1 w2) := Lib.hid (by rw [hw2]; exact ((Below.refl _ _).alloc (Nat.le_refl _) _).alloc (by simp) _)
    have hzk2 : w1.heap.size + 1 < w2.heap.size := by rw [hw2]; simp
    have HV2 := Lib.hid (HV1.out.later Hb2.out)
    clear hw2 hw2'
    go_loopw [10, 11, 12] (fun lv wv i wr => ∃ (j : Nat) (pl pw : Option Addr) (cl cw : Nat) (rs : List LR) (xss : List (List ByteArray)) (vw : List Value), j ≤ 5 ∧ i = .int .i64 j ∧ lv = .slice pl j cl ∧ wv = .slice pw j cw ∧ PL w2.heap.size wr j pl cl pw cw rs xss vw ∧ Below w2.heap.size w2 wr) (fun _ _ i _ => 5 - (intOf i).toNat)
    case atStart => exact ⟨0, none, none, 0, 0, [], [], [], by omega, rfl, rfl, rfl, PL.start _ _, Below.refl _ _⟩
    case round =>
      obtain ⟨j, pl, pw, cl, cw, rs, xss, vw, hj, rfl, rfl, rfl, hpl, hbel⟩ := hrel
      have Hpl := Lib.hid hpl
      have Hbel := Lib.hid hbel
      have hzr := hbel.size
      clear hpl hbel
      by_cases hlt : j < 5
      · obtain ⟨kj, hkj⟩ := kk_at k j hlt
        obtain ⟨sj, hsj, hsjs⟩ := ss_at s t hs2 ht2 j hlt
        have c1 : wr.cell? ⟨w1.heap.size, j, none⟩ = some (.int .i64 kj) := (Hbel.out.cell (p := ⟨w1.heap.size, j, none⟩) (by show w1.heap.size < _; omega)).trans (by rw [cell_of_row _ _ _ _ _ _ HK2.out]; exact hkj)
        have c2 : wr.cell? ⟨w1.heap.size + 1, j, none⟩ = some (.string sj) := (Hbel.out.cell (p := ⟨w1.heap.size + 1, j, none⟩) (by show w1.heap.size + 1 < _; omega)).trans (by rw [cell_of_row _ _ _ _ _ _ HS2.out]; exact hsj)
        have HVr := Lib.hid (HV2.out.later Hbel.out)
        obtain ⟨⟨⟨ak, ai, at_, aw⟩, E⟩, hP⟩ : ∃ r, parse wordL kj sj.data.toList = r := ⟨_, rfl⟩
        have hP16 := parse_len kj sj.data.toList
        rw [hP] at hP16
        simp only at hP16
        have HPa := Lib.hid fun (W : World) (hW : Below wr.heap.size wr W) => Parse_any kj sj hsjs W (HVr.out.later hW)
        have HPb := Lib.hid fun (W : World) => refParse_any kj sj hsjs W
        have HUa := Lib.hid fun (W : World) (hW : Below wr.heap.size wr W) => Unit_any kj sj W (HVr.out.later hW).units
        have HUb := Lib.hid fun (W : World) => refUnit_any kj sj W
        rw [hP] at HPa HPb
        have HQa : Hid (∀ (W : World), Below wr.heap.size wr W → Calls Tryz.prog 7 #[.int .i64 kj, .string sj] W fun e w' => (∃ p n c, e = .returned (.tuple #[.agg #[.int .i64 ak, .int .i64 ai, .string at_, .slice p n c], .int .i64 E]) ∧ Fresh W w' (.slice p n c) aw) ∧ Below W.heap.size W w') := Lib.hid fun W hW => (HPa.out W hW).mono fun e w' ⟨⟨sl, he, hf⟩, hb⟩ => by
          obtain ⟨p, n, c, rfl⟩ := hf.shape
          exact ⟨⟨p, n, c, he, hf⟩, hb⟩
        have HQb : Hid (∀ (W : World), Calls Tryz.prog 8 #[.int .i64 kj, .string sj] W fun e w' => (∃ p n c, e = .returned (.tuple #[.agg #[.int .i64 ak, .int .i64 ai, .string at_, .slice p n c], .int .i64 E]) ∧ FreshR W w' (.slice p n c) aw) ∧ Below W.heap.size W w') := Lib.hid fun W => (HPb.out W).mono fun e w' ⟨⟨sl, he, hf⟩, hb⟩ => by
          obtain ⟨p, n, c, rfl⟩ := hf.shape
          exact ⟨⟨p, n, c, he, hf⟩, hb⟩
        clear HPa HPb
        clear hkj hsj hP
        generalize unit kj sj.data.toList = un at *
        go_wp2_with fail
        go_upto_region 11 with fail
        go_cut [13, 14] (fun s13 s14 wx => s14 = .int .i64 E ∧ Got wr wx ⟨ak, ai, at_, aw⟩ true s13 ∧ Below wr.heap.size wr wx)
        case first =>
          have HQ0 := Lib.hid (HQa.out wr.drew (Below.refl _ _).drew)
          have HQ1 := Lib.hid fun (z0 z1 z2 z3 : Value) => HQa.out (wr.alloc (.cells #[z0, z1, z2, z3] 28)).drew ((Below.refl _ _).alloc (Nat.le_refl _) _).drew
          have hA1 : (⟨w1.heap.size, j, none⟩ : Addr).block < wr.heap.size := by show w1.heap.size < _; omega
          have hB1 : (⟨w1.heap.size + 1, j, none⟩ : Addr).block < wr.heap.size := by show w1.heap.size + 1 < _; omega
          have hSt : wr.cell? ⟨w1.heap.size, j, none⟩ = some (.int .i64 kj) ∧ wr.cell? ⟨w1.heap.size + 1, j, none⟩ = some (.string sj) ∧ Hid (Below wr.heap.size wr wr) := ⟨c1, c2, Lib.hid (Below.refl _ _)⟩
          go_region_held3 (fun w' => w'.cell? ⟨w1.heap.size, j, none⟩ = some (.int .i64 kj) ∧ w'.cell? ⟨w1.heap.size + 1, j, none⟩ = some (.string sj) ∧ Hid (Below wr.heap.size wr w'))
            (first | assumption | (with_reducible exact p3_drew (by assumption)) | (with_reducible exact p3_alloc _ (by assumption)) | (with_reducible exact p3_dalloc _ (by assumption)) | (with_reducible exact p3_set _ hA1 hB1 (Nat.le_refl _) (p3_set _ hA1 hB1 (Nat.le_refl _) (p3_set _ hA1 hB1 (Nat.le_refl _) (p3_set _ hA1 hB1 (Nat.le_refl _) (by assumption))))))
            (first
              | (go_at_call 7; (with_reducible refine Calls.mono HQ0.out ?_); rintro e w' ⟨⟨p3, n3, c3, rfl, hf⟩, hb⟩; have HF := Lib.hid hf; have HB3 := Lib.hid hb; have hS' := p3_call (by assumption) hb; clear hf hb)
              | (go_at_call 7; (with_reducible refine Calls.mono (HQ1.out _ _ _ _) ?_); rintro e w' ⟨⟨p3, n3, c3, rfl, hf⟩, hb⟩; have HF := Lib.hid hf; have HB3 := Lib.hid hb; have hS' := p3_call (by assumption) hb; obtain ⟨⟨z0, z1, z2, z3⟩, y0, y1, y2, y3⟩ := old4 hb; clear hf hb))
          all_goals
            (try go_wp2_with fail)
            go_meet
            obtain ⟨p9, n9, e9, e10, hsb, hnl⟩ := HF.out.lr
            cases e9
          · obtain ⟨hg, hb9⟩ := got_new (v := ⟨ak, ai, at_, aw⟩) (wr := wr) true hsb (fun _ => ⟨rfl, hnl⟩) ⟨HB3.out.os, HB3.out.tape, HB3.out.output, HB3.out.size, HB3.out.block⟩
            exact ⟨rfl, hg, hb9⟩
          · obtain ⟨hg, hb9⟩ := got_set (v := ⟨ak, ai, at_, aw⟩) (wr := wr) true rfl hsb (fun _ => ⟨rfl, hnl.mono (by simp [World.size_alloc]; try exact Nat.le_refl _)⟩) HB3.out rfl
            exact ⟨rfl, hg, hb9⟩
        case rest =>
          obtain ⟨rfl, hgot, hbel2⟩ := hcut
          have Hgot := Lib.hid hgot
          have Hbel2 := Lib.hid hbel2
          have hzw2 := hbel2.size
          have d1 : wc.cell? ⟨w1.heap.size, j, none⟩ = some (.int .i64 kj) := (hbel2.cell (p := ⟨w1.heap.size, j, none⟩) (by show w1.heap.size < _; omega)).trans c1
          have d2 : wc.cell? ⟨w1.heap.size + 1, j, none⟩ = some (.string sj) := (hbel2.cell (p := ⟨w1.heap.size + 1, j, none⟩) (by show w1.heap.size + 1 < _; omega)).trans c2
          clear hgot hbel2 c1 c2
          obtain ⟨w3, hw3⟩ : ∃ w3, w3 = wc := ⟨_, rfl⟩
          rw [← hw3] at Hgot Hbel2 hzw2 d1 d2 ⊢
          clear hw3
          go_wp2_with fail
          go_upto_region 12 with fail
          go_cut [15, 16] (fun s15 s16 wx => s16 = .int .i64 E ∧ Got w3 wx ⟨ak, ai, at_, aw⟩ false s15 ∧ Below w3.heap.size w3 wx)
          case first =>
            have HQ0 := Lib.hid (HQb.out w3.drew)
            have HQ1 := Lib.hid fun (z0 z1 z2 z3 : Value) => HQb.out (w3.alloc (.cells #[z0, z1, z2, z3] 28)).drew
            have hA1 : (⟨w1.heap.size, j, none⟩ : Addr).block < w3.heap.size := by show w1.heap.size < _; omega
            have hB1 : (⟨w1.heap.size + 1, j, none⟩ : Addr).block < w3.heap.size := by show w1.heap.size + 1 < _; omega
            have hSt : w3.cell? ⟨w1.heap.size, j, none⟩ = some (.int .i64 kj) ∧ w3.cell? ⟨w1.heap.size + 1, j, none⟩ = some (.string sj) ∧ Hid (Below w3.heap.size w3 w3) := ⟨d1, d2, Lib.hid (Below.refl _ _)⟩
            go_region_held3 (fun w' => w'.cell? ⟨w1.heap.size, j, none⟩ = some (.int .i64 kj) ∧ w'.cell? ⟨w1.heap.size + 1, j, none⟩ = some (.string sj) ∧ Hid (Below w3.heap.size w3 w'))
              (first | assumption | (with_reducible exact p3_drew (by assumption)) | (with_reducible exact p3_alloc _ (by assumption)) | (with_reducible exact p3_dalloc _ (by assumption)) | (with_reducible exact p3_set _ hA1 hB1 (Nat.le_refl _) (p3_set _ hA1 hB1 (Nat.le_refl _) (p3_set _ hA1 hB1 (Nat.le_refl _) (p3_set _ hA1 hB1 (Nat.le_refl _) (by assumption))))))
              (first
                | (go_at_call 8; (with_reducible refine Calls.mono HQ0.out ?_); rintro e w' ⟨⟨p3, n3, c3, rfl, hf⟩, hb⟩; have HF := Lib.hid hf; have HB3 := Lib.hid hb; have hS' := p3_call (by assumption) hb; clear hf hb)
                | (go_at_call 8; (with_reducible refine Calls.mono (HQ1.out _ _ _ _) ?_); rintro e w' ⟨⟨p3, n3, c3, rfl, hf⟩, hb⟩; have HF := Lib.hid hf; have HB3 := Lib.hid hb; have hS' := p3_call (by assumption) hb; obtain ⟨⟨z0, z1, z2, z3⟩, y0, y1, y2, y3⟩ := old4 hb; clear hf hb))
            all_goals
              (try go_wp2_with fail)
              go_meet
              have hsb := HF.out.sbs
            · obtain ⟨hg, hb9⟩ := got_new (v := ⟨ak, ai, at_, aw⟩) (wr := w3) false hsb (fun h => by cases h) ⟨HB3.out.os, HB3.out.tape, HB3.out.output, HB3.out.size, HB3.out.block⟩
              exact ⟨rfl, hg, hb9⟩
            · obtain ⟨hg, hb9⟩ := got_set (v := ⟨ak, ai, at_, aw⟩) (wr := w3) false rfl hsb (fun h => by cases h) HB3.out rfl
              exact ⟨rfl, hg, hb9⟩
          case rest =>
            obtain ⟨rfl, hgot2, hbel3⟩ := hcut
            obtain ⟨w4, hw4⟩ : ∃ w4, w4 = wc := ⟨_, rfl⟩
            rw [← hw4] at hgot2 hbel3 ⊢
            clear hw4
            have Hbel3 := Lib.hid (then_bel Hbel2.out hbel3)
            have hzw3 := Hbel3.out.size
            have e1 : w4.cell? ⟨w1.heap.size, j, none⟩ = some (.int .i64 kj) := (hbel3.cell (p := ⟨w1.heap.size, j, none⟩) (by show w1.heap.size < _; omega)).trans d1
            have e2 : w4.cell? ⟨w1.heap.size + 1, j, none⟩ = some (.string sj) := (hbel3.cell (p := ⟨w1.heap.size + 1, j, none⟩) (by show w1.heap.size + 1 < _; omega)).trans d2
            obtain ⟨g1, p1, n1, c1, rfl, hg1, hs1, hn1, hl1⟩ := Hgot.out.later hbel3
            obtain ⟨rfl, hnl1⟩ := hn1 rfl
            obtain ⟨g2, p2, n2, c2, rfl, hg2, hs2', _, hl2⟩ := hgot2
            simp only at hg1 hs1 hl1 hg2 hs2' hl2
            obtain rfl : n1 = n2 := by rw [hl1, hl2]
            have HG1 := Lib.hid hg1
            have HG2 := Lib.hid hg2
            have HX1 := Lib.hid hs1
            have HX2 := Lib.hid hs2'
            have HNL := Lib.hid hnl1
            have hn16 : n1 ≤ 16 := by omega
            have HLn := Lib.hid hl1
            have hc := fun i => cell_of_row w4 g1 i _ _ _ hg1
            have A0 := hc 0; have A1 := hc 1; have A2 := hc 2; have A3 := hc 3
            have hd := fun i => cell_of_row w4 g2 i _ _ _ hg2
            have B0 := hd 0; have B1 := hd 1; have B2 := hd 2; have B3 := hd 3
            simp only [List.getElem?_toArray, List.getElem?_cons_succ, List.getElem?_cons_zero] at A0 A1 A2 A3 B0 B1 B2 B3
            have HSm := Lib.hid (refSame_any ⟨ak, ai, at_, aw⟩ ⟨ak, ai, at_, aw⟩ (.slice p1 n1 n1) (.slice p2 n1 c2) w4 hs1.strs hs2'.strs (by simp only; omega) (by simp only; omega))
            unfold rep at HSm
            simp only [decide_true] at HSm
            clear hg1 hs1 hn1 hl1 hnl1 hg2 hs2' hl2 hc hd hbel3 d1 d2
            go_wp2_with fail
            refine HSm.out.mono ?_
            rintro e w5 ⟨rfl, hb5⟩
            have Hb5 := Lib.hid hb5
            have hEE : (E != E) = false := by simp
            have hUU : (un != un) = false := by simp
            have f1 : w5.cell? ⟨w1.heap.size, j, none⟩ = some (.int .i64 kj) := (hb5.cell (World.block_lt_of_cell? _ _ e1)).trans e1
            have f2 : w5.cell? ⟨w1.heap.size + 1, j, none⟩ = some (.string sj) := (hb5.cell (World.block_lt_of_cell? _ _ e2)).trans e2
            clear hb5 e1 e2 A0 A1 A2 A3 B0 B1 B2 B3
            go_wp2_with fail
            have hSt : w5.cell? ⟨w1.heap.size, j, none⟩ = some (.int .i64 kj) ∧ w5.cell? ⟨w1.heap.size + 1, j, none⟩ = some (.string sj) ∧ Hid (Below w5.heap.size w5 w5) := ⟨f1, f2, Lib.hid (Below.refl _ _)⟩
            have HB45 : Hid (∀ W, Below w5.heap.size w5 W → Below wr.heap.size wr W) := Lib.hid fun W h => then_bel (then_bel Hbel3.out Hb5.out) h
            go_region_held3 (fun w' => w'.cell? ⟨w1.heap.size, j, none⟩ = some (.int .i64 kj) ∧ w'.cell? ⟨w1.heap.size + 1, j, none⟩ = some (.string sj) ∧ Hid (Below w5.heap.size w5 w'))
              (first | assumption | (with_reducible exact p3_drew (by assumption)))
              (first
                | (go_at_call 10; refine (HUa.out _ (HB45.out _ (p3_bel (by assumption)))).mono ?_; rintro e w' ⟨rfl, hb⟩; have hS' := p3_call (by assumption) hb; clear hb)
                | (go_at_call 11; refine (HUb.out _).mono ?_; rintro e w' ⟨rfl, rfl⟩))
            obtain ⟨w6, rfl⟩ : ∃ w6, w6 = w' := ⟨_, rfl⟩
            have hb6 : Below w4.heap.size w4 w6 := then_bel Hb5.out (p3_bel hS')
            have Hb6 := Lib.hid (then_bel Hbel3.out hb6)
            have hzw6 := Hb6.out.size
            have HPL6 := Lib.hid (Hpl.out.keep Hb6.out)
            have hg1' := (hb6.block g1 (lt_of_block HG1.out)).trans HG1.out
            have hg2' := (hb6.block g2 (lt_of_block HG2.out)).trans HG2.out
            have A3 := cell_of_row w6 g1 3 _ _ _ hg1'
            have B3 := cell_of_row w6 g2 3 _ _ _ hg2'
            simp only [List.getElem?_toArray, List.getElem?_cons_succ, List.getElem?_cons_zero] at A3 B3
            have HG1' := Lib.hid hg1'
            have HG2' := Lib.hid hg2'
            have HX1' := Lib.hid (HX1.out.keep (SK.of_below hb6))
            have HX2' := Lib.hid (HX2.out.keep (SK.of_below hb6))
            have HNL' := Lib.hid (HNL.out.keep (SK.of_below hb6))
            have HRd := Lib.hid (Hpl.out.fresh HNL'.out)
            clear hSt f1 f2 hb6 hg1' hg2' hS'
            focus
              go_wp2_with (at_builtin; go_must (refine wpList_append_lit rfl _ _ 26 rfl 25 i0 _ 24 Tryz.underlying26 hi hz0 hz1 hz2 rfl _ 1 (by omega) (by rfl) (by rfl) w2.heap.size _ j _ (by rfl) HPL6.out.ownl (by simp [Value.oneCell']) (by omega) (by omega) (by omega) ?_))
            intro ga ca wa hown1 hgrow1 hat1 hza hlta
            have Hown1 := Lib.hid hown1
            have Hgrow1 := Lib.hid hgrow1
            have Hat1 := Lib.hid hat1
            have Hwant := Lib.hid (HPL6.out.wantAt hgrow1)
            have B3a : wa.cell? ⟨g2, 3, none⟩ = some (.slice p2 n1 c2) := (World.cell?_of_block (a := ⟨g2, 3, none⟩) (hgrow1.block g2 (lt_of_block HG2'.out) (by
              intro e
              rcases HPL6.out.ownl.2 with ⟨h, _⟩ | ⟨q, cap, cur, h, _, hq, _⟩
              · rw [h] at e; cases e
              · rw [h] at e
                exact ne_of_types HG2'.out hq (by decide) (Option.some.inj e)))).trans B3
            have hzwa := hgrow1.size
            clear hown1 hgrow1 hat1 B3 A3
            focus
              go_wp2_with (at_builtin; go_must (refine wpList_append_lit rfl _ _ 26 rfl 25 i0 _ 24 Tryz.underlying26 hi hz0 hz1 hz2 rfl _ 1 (by omega) (by rfl) (by rfl) w2.heap.size _ j _ (by rfl) Hwant.out (by simp [Value.oneCell']) (by omega) (by omega) (by omega) ?_))
            intro gb cb wb hown2 hgrow2 hat2 hzb hltb
            have HPL7 := Lib.hid (HPL6.out.next (R := ⟨p1, n1⟩) (xs := aw) (HNL'.out.mono (by omega)) (by show n1 ≤ 16; omega) HRd.out HX1'.out HX2'.out Hown1.out Hgrow1.out Hat1.out hlta hown2 hgrow2 hat2)
            have HB7 := Lib.hid (below_grown_own (below_grown_own (Hbel.out.trans (Hb6.out.mono hzr)) HPL6.out.ownl Hgrow1.out (by omega)) Hwant.out hgrow2 (by omega))
            clear hown2 hgrow2 hat2
            go_wp2_with fail
            go_roundw
            case rel => exact ⟨j + 1, some ⟨ga, 0, none⟩, some ⟨gb, 0, none⟩, ca, cb, _, _, _, by omega, by go_num, rfl, rfl, HPL7.out, HB7.out⟩
            case measure => simp [intOf]; omega
      · obtain rfl : j = 5 := by omega
        rw [show (((5 : Nat) : Int)) = 5 from rfl]
        have HO := Lib.hid (Hpl.out.owned hzr)
        go_wp2_with fail
        refine HO.out.mono ?_
        rintro e w8 ⟨rfl, hb8⟩
        have Hb8 : Hid (Below w1.heap.size w1 w8) := Lib.hid (Hb2.out.trans ((Hbel.out.trans hb8).mono Hb2.out.size))
        clear hb8
        go_wp2_with fail
        refine (stands_any w8 (HV1.out.later Hb8.out)).mono ?_
        rintro e w9 ⟨rfl, hb9⟩
        have Hb9 := Lib.hid (then_bel Hb1.out (then_bel Hb8.out hb9))
        clear hb9
        go_wp2_with fail
        go_ret
        exact ⟨rfl, Hb9.out⟩
end Go.Proofs.YtkbamhecbfocbaaGreatDoor.va
