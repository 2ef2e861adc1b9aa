/- The reference's words returns the plain function. Condition: the text is no longer than 2147483647 bytes. -/
import Derived.Test.YtkbamhecbfocbaaGreatDoorVbE
import Derived.Test.YtkbamhecbfocbaaGreatDoorLib2
import Derived.Test.YtkbamhecbfocbaaGreatDoorVaS
import Derived.Test.YtkbamhecbfocbaaGreatDoorMem
import Derived.Deep.RegionHeld3
import Derived.Deep.RegionLaw
import Derived.StillTactics
namespace Go.Proofs.YtkbamhecbfocbaaGreatDoor.va
open Go.ChangeShapes Go.WideShapes Go.ChangeAt Go.RowKit gl

/-- New strings in memory of their own. -/
def FreshR (w w' : World) (sl : Value) (xs : List ByteArray) : Prop :=
  (xs = [] ∧ sl = .slice none 0 0) ∨ ∃ g c cs, sl = .slice (some ⟨g, 0, none⟩) xs.length c ∧ xs.length ≤ c ∧ w.heap.size < g ∧ w'.heap[g]? = some (.cells cs 9 (0, 0)) ∧ ∀ (j : Nat) x, xs[j]? = some x → cs[j]? = some (.string x)
theorem FreshR.strs {w w' : World} {sl : Value} {xs : List ByteArray} (h : FreshR w w' sl xs) : Strs w' sl xs := by
  rcases h with ⟨rfl, rfl⟩ | ⟨g, c, cs, rfl, hc, _, hg, hat⟩
  · exact ⟨none, 0, rfl, Nat.le_refl _, .inl rfl⟩
  · exact ⟨_, c, rfl, hc, .inr ⟨g, 0, rfl, lt_of_block hg, fun j x hj => by rw [Nat.zero_add, cell_of_row _ _ _ _ _ _ hg]; exact hat j x hj⟩⟩
theorem FreshR.out {w w1 W : World} {sl : Value} {xs : List ByteArray} (h : FreshR w w1 sl xs) (_hs : W.heap.size = w1.heap.size) (hW : ∀ k : Nat, k ≠ w.heap.size → W.heap[k]? = w1.heap[k]?) : FreshR w W sl xs := by
  rcases h with h | ⟨g, c, cs, rfl, hc, h1, h2, hat⟩
  · exact .inl h
  · exact .inr ⟨g, c, cs, rfl, hc, h1, (hW g (by omega)).trans h2, hat⟩
def RefOut (r : Val × Int) (w : World) (e : Ending) (w' : World) : Prop := ∃ sl, e = .returned (res r sl) ∧ FreshR w w' sl r.1.words

/-- k bytes have been passed; the piece that is read begins at f; 'done' are the pieces before, words all. -/
structure WS (l : List UInt8) (f k : Nat) (done : List (List UInt8)) : Prop where
  le : f ≤ k
  kl : k ≤ l.length
  eq : pcs 44 l = done ++ pcs 44 (l.drop f)
  free : ∀ j, f ≤ j → j < k → l[j]? ≠ some 44
  ok : done.all wordL = true
  many : done.length ≤ k
theorem WS.start (l : List UInt8) : WS l 0 0 [] := ⟨by omega, by omega, rfl, fun j _ h => by omega, rfl, by simp⟩
theorem WS.pass {l : List UInt8} {f k : Nat} {done : List (List UInt8)} {b : UInt8} (h : WS l f k done) (hb : l[k]? = some b) (hne : b ≠ 44) : WS l f (k + 1) done :=
  ⟨by have := h.le; omega, by have := lt_of_get hb; omega, h.eq, fun j h1 h2 => by
    rcases Nat.lt_or_ge j k with h3 | h3
    · exact h.free j h1 h3
    · obtain rfl : j = k := by omega
      rw [hb]; exact fun e => hne (Option.some.inj e), h.ok, by have := h.many; omega⟩
theorem WS.piece {l : List UInt8} {f k : Nat} {done : List (List UInt8)} (h : WS l f k done) (hb : l[k]? = some 44) : pcs 44 (l.drop f) = (l.drop f).take (k - f) :: pcs 44 (l.drop (k + 1)) := by
  have hle := h.le
  have := pcs_hit 44 (k - f) (l.drop f) (fun j hj => by rw [List.getElem?_drop]; exact h.free (f + j) (by omega) (by omega)) (by rw [List.getElem?_drop, show f + (k - f) = k by omega]; exact hb)
  rw [List.drop_drop, show f + (k - f + 1) = k + 1 by omega] at this
  exact this
theorem WS.lastp {l : List UInt8} {f : Nat} {done : List (List UInt8)} (h : WS l f l.length done) : pcs 44 (l.drop f) = [(l.drop f).take (l.length - f)] := by
  rw [List.take_of_length_le (by simp)]
  exact pcs_none 44 _ fun j => by
    rw [List.getElem?_drop]
    rcases Nat.lt_or_ge (f + j) l.length with h1 | h1
    · exact h.free _ (by omega) h1
    · rw [List.getElem?_eq_none h1]; simp
theorem WS.hit {l : List UInt8} {f k : Nat} {done : List (List UInt8)} (h : WS l f k done) (hb : l[k]? = some 44) (hp : wordL ((l.drop f).take (k - f)) = true) : WS l (k + 1) (k + 1) (done ++ [(l.drop f).take (k - f)]) :=
  ⟨Nat.le_refl _, by have := lt_of_get hb; omega, by rw [h.eq, h.piece hb]; simp, fun j h1 h2 => by omega, by rw [List.all_append, h.ok]; simpa using hp, by have := h.many; simp; omega⟩
theorem WS.fin {l : List UInt8} {f : Nat} {done : List (List UInt8)} (h : WS l f l.length done) (hp : wordL ((l.drop f).take (l.length - f)) = true) : pcs 44 l = done ++ [(l.drop f).take (l.length - f)] ∧ (pcs 44 l).all wordL = true := by
  have e : pcs 44 l = done ++ [(l.drop f).take (l.length - f)] := by rw [h.eq, h.lastp]
  exact ⟨e, by rw [e, List.all_append, h.ok]; simpa using hp⟩
theorem WS.bad {l : List UInt8} {f k : Nat} {done : List (List UInt8)} (h : WS l f k done) (hb : k = l.length ∨ l[k]? = some 44) (hp : wordL ((l.drop f).take (k - f)) = false) (hl : l ≠ []) : parseWords wordL l = (zero, 40) := by
  have hf : (pcs 44 l).all wordL = false := by
    rw [h.eq, List.all_append]
    rcases hb with rfl | hb
    · rw [h.lastp]; simp [hp]
    · rw [h.piece hb]; simp [hp]
  unfold parseWords
  rw [if_neg hl, hf]
  rfl
theorem pw_end {l : List UInt8} {done : List (List UInt8)} (hl : l ≠ []) (h : pcs 44 l = done) (ha : done.all wordL = true) : parseWords wordL l = if 200 < l.length ∨ 16 < done.length then (zero, 42) else (⟨6, 0, ByteArray.empty, done.map B⟩, 0) := by
  unfold parseWords
  rw [if_neg hl, h, ha]
  rfl

/-- What the loop keeps. -/
structure WM (w wr : World) (sl : Value) (done : List (List UInt8)) : Prop where
  res : wr.heap[w.heap.size]? = some (.cells #[.int .i64 0, .int .i64 0, .string ⟨#[]⟩, .slice none 0 0] 28 (0, 0))
  val : wr.heap[w.heap.size + 1]? = some (.cells #[.int .i64 6, .int .i64 0, .string ⟨#[]⟩, sl] 28 (0, 0))
  own : wr.ownsRow (w.heap.size + 1 + 1) 9 1 sl (min done.length 16) (((done.take 16).map B).map Value.string)
  bel : Below w.heap.size w wr
theorem WM.fresh {w wr : World} {sl : Value} {done : List (List UInt8)} (h : WM w wr sl done) (h16 : done.length ≤ 16) : FreshR w wr sl (done.map B) := by
  have ho := h.own
  rw [Nat.min_eq_left h16, List.take_of_length_le h16] at ho
  rcases ho.2 with ⟨rfl, h0⟩ | ⟨g, cap, cur, rfl, hg, hb, hnc, _, _, htake⟩
  · have : done.length = 0 := by omega
    obtain rfl : done = [] := List.eq_nil_of_length_eq_zero this
    exact .inl ⟨rfl, rfl⟩
  · refine .inr ⟨g, cap, cur, by simp, by simpa using hnc, by omega, hb, fun j x hj => ?_⟩
    have hj2 : ((done.map B).map Value.string)[j]? = some (.string x) := by rw [List.getElem?_map, hj]; rfl
    rw [← htake, List.getElem?_take_of_lt (by have := lt_of_get hj; simp at this; omega)] at hj2
    rwa [Array.getElem?_toList] at hj2
theorem take_more {done : List (List UInt8)} {pc : List UInt8} (hlt : done.length < 16) : (((done ++ [pc]).take 16).map B).map Value.string = ((done.take 16).map B).map Value.string ++ [Value.string (B pc)] := by
  rw [List.take_of_length_le (by simp; omega), List.take_of_length_le (by omega)]
  simp
theorem WM.more {w wr w1 : World} {sl : Value} {done : List (List UInt8)} {pc : List UInt8} {n m g cap : Nat} (h : WM w wr sl done) (hn : done.length = n) (hm : min n 16 = m) (hlt : n < 16)
    (hown : w1.ownsRow (w.heap.size + 1 + 1) 9 1 (.slice (some ⟨g, 0, none⟩) (m + 1) cap) (m + 1) (((done.take 16).map B).map Value.string ++ [Value.string (B pc)])) (hgrow : wr.grownBy w1 sl.ownBlock) (hsz : w.heap.size + 1 + 1 ≤ wr.heap.size) :
    WM w (w1.setCell ⟨w.heap.size + 1, 3, none⟩ (.slice (some ⟨g, 0, none⟩) (m + 1) cap)) (.slice (some ⟨g, 0, none⟩) (m + 1) cap) (done ++ [pc]) := by
  have hfar : ∀ k, k < w.heap.size + 1 + 1 → w1.heap[k]? = wr.heap[k]? := fun k hk => hgrow.block k (by omega) fun e => by have := (h.own.lt k e.symm).1; omega
  refine ⟨heap_set_ne ((hfar _ (by omega)).trans h.res) _ (by simp), ?_, ?_, ?_⟩
  · have := heap_set (o := 3) ((hfar (w.heap.size + 1) (by omega)).trans h.val) (.slice (some ⟨g, 0, none⟩) (m + 1) cap)
    exact this
  · rw [take_more (by omega), show min (done ++ [pc]).length 16 = m + 1 by simp; omega]
    exact ownsRow_setCell_below hown (by show w.heap.size + 1 < _; omega) _
  · exact (h.bel.grown hgrow (by omega) fun k hk => by have := (h.own.lt k hk).1; omega).setCell (by show w.heap.size ≤ w.heap.size + 1; omega) _
theorem WM.over {w wr : World} {sl : Value} {done : List (List UInt8)} {pc : List UInt8} (h : WM w wr sl done) (hn : 16 ≤ done.length) : WM w wr sl (done ++ [pc]) := by
  refine ⟨h.res, h.val, ?_, h.bel⟩
  have := h.own
  rw [Nat.min_eq_right hn] at this
  rw [Nat.min_eq_right (by simp; omega), List.take_append_of_le_length hn]
  exact this

set_option maxHeartbeats 1000000 in
set_option maxRecDepth 100000 in
theorem refWords_any (s : ByteArray) (hs : s.size ≤ 2147483647) (w : World) :
    Calls Tryz.prog 30 #[.string s] w fun e w' => RefOut (parseWords wordL s.data.toList) w e w' ∧ Below w.heap.size w w' := by
  obtain ⟨i0, hi, hz0, hz1, hz2⟩ := info_parts infoStr
  have hl0 : s.data.toList.length = s.size := by simp
  have hend : ∀ {F : Nat} {done : List (List UInt8)}, WS s.data.toList F s.size done → s.data.toList ≠ [] → wordL (s.extract F s.size).data.toList = true → (s.size : Nat) + 1 = s.size + 1 ∧ s.data.toList ≠ [] ∧ pcs 44 s.data.toList = done ++ [(s.extract F s.size).data.toList] ∧ (done ++ [(s.extract F s.size).data.toList]).all wordL = true := by
    intro F done h hne hp
    rw [Lib.extract_data] at hp ⊢
    rw [← hl0] at h hp ⊢
    obtain ⟨e1, e2⟩ := h.fin hp
    exact ⟨rfl, hne, e1, e1 ▸ e2⟩
  go_enter Tryz.func30, Tryz.ntmps30
  go_wp2_with fail
  go_loopw [5, 6, 7] (fun f m i wr => ∃ (F k n : Nat) (done : List (List UInt8)) (p : Option Addr) (c : Nat), f = .int .i64 F ∧ m = .int .i64 n ∧ i = .int .i64 k ∧ done.length = n ∧ F ≤ s.size + 1 ∧ k ≤ s.size + 1 ∧ n ≤ s.size + 1 ∧
    (WS s.data.toList F k done ∨ (k = s.size + 1 ∧ s.data.toList ≠ [] ∧ pcs 44 s.data.toList = done ∧ done.all wordL = true)) ∧ WM w wr (.slice p (min n 16) c) done) (fun _ _ i _ => s.size + 1 - (intOf i).toNat)
  case atStart =>
    refine ⟨0, 0, 0, [], none, 0, rfl, rfl, rfl, rfl, by omega, by omega, by omega, .inl (WS.start _), ?_, ?_, ?_, ?_⟩
    · rw [heap_al (heap_alloc_new w _) _]
    · have := heap_alloc_new (w.alloc (.cells #[.int .i64 0, .int .i64 0, .string ⟨#[]⟩, .slice none 0 0] 28)) (.cells #[.int .i64 6, .int .i64 0, .string ⟨#[]⟩, .slice none 0 0] 28)
      simpa using this
    · exact ⟨rfl, .inl ⟨rfl, rfl⟩⟩
    · exact ((Below.refl _ w).alloc (Nat.le_refl _) _).alloc (by simp) _
  case round =>
    obtain ⟨F, k, n, done, p, c, rfl, rfl, rfl, hn, hF, hk, hn1, hst, hM⟩ := hrel
    obtain ⟨m, hm⟩ : ∃ m, min n 16 = m := ⟨_, rfl⟩
    rw [hm] at hM
    have hm16 : m ≤ 16 := by omega
    have hmn : m ≤ n := by omega
    have Hn := Lib.hid hn
    have Hm := Lib.hid hm
    have HM := Lib.hid hM
    have hsz : w.heap.size + 1 + 1 ≤ wr.heap.size := by have := lt_of_block hM.val; omega
    have hc := fun j => cell_of_row wr w.heap.size j _ _ _ hM.res
    have hd := fun j => cell_of_row wr (w.heap.size + 1) j _ _ _ hM.val
    have hf := fun j => frozen_of_row wr w.heap.size j _ _ hM.res
    have he := fun j => frozen_of_row wr (w.heap.size + 1) j _ _ hM.val
    have c0 := hc 0; have c1 := hc 1; have c2 := hc 2; have c3 := hc 3
    have d0 := hd 0; have d1 := hd 1; have d2 := hd 2; have d3 := hd 3
    have f0 := hf 0; have f1 := hf 1; have f2 := hf 2; have f3 := hf 3
    have e0 := he 0; have e1 := he 1; have e2 := he 2; have e3 := he 3
    simp only [List.getElem?_toArray, List.getElem?_cons_succ, List.getElem?_cons_zero] at c0 c1 c2 c3 d0 d1 d2 d3
    have Hst := Lib.hid hst
    clear hn hm hM hc hd hf he hst
    by_cases hnil : s.data.toList = []
    · have hemp : s.toList.isEmpty = true := by rw [ByteArray.toList_eq, hnil]; rfl
      have hsz0 : s.size = 0 := by rw [← hl0, hnil]; rfl
      obtain ⟨rfl, hn0⟩ : k = 0 ∧ n = 0 := by
        rcases Hst.out with h | ⟨_, h, _⟩
        · have h1 := h.kl
          have h2 := h.many
          rw [Hn.out] at h2
          omega
        · exact absurd hnil h
      subst hn0
      have hd0 : done = [] := List.eq_nil_of_length_eq_zero Hn.out
      have Hp : Hid (parseWords wordL s.data.toList = (⟨6, 0, ByteArray.empty, done.map B⟩, 0)) := Lib.hid (by rw [hnil, hd0]; rfl)
      clear hnil hd0
      have Hpw : Hid (parseWords wordL s.data.toList = if 200 < s.data.toList.length ∨ 16 < done.length then (zero, 42) else (⟨6, 0, ByteArray.empty, done.map B⟩, 0)) := Lib.hid (by rw [if_neg (by rw [hl0, Hn.out]; omega)]; exact Hp.out)
      have He := Hp
      go_wp2_with fail
      generalize hW : World.setCell (World.setCell (World.setCell (World.setCell wr _ _) _ _) _ _) _ _ = W
      obtain ⟨⟨g0, g1, g2, g3⟩, hsW, hoth, hbel⟩ := four_done HM.out.res hW
      have HB := Lib.hid (hbel w.heap.size w HM.out.bel (Nat.le_refl _))
      have HO := Lib.hid hoth
      have HsW := Lib.hid hsW
      clear hW hbel hoth hsW
      (try simp only [Exit.inBlock, Exit.then])
      refine bodyPost_ret (by simp [results, Tryz.results30, go_sem, g0, g1, g2, g3]; try rfl) rfl ?_
      exact ⟨⟨_, by rw [He.out]; rfl, by rw [He.out]; exact (HM.out.fresh (by rw [Hn.out]; omega)).out HsW.out HO.out⟩, HB.out⟩
    · have hemp : s.toList.isEmpty = false := by
        rw [ByteArray.toList_eq]
        cases hl : s.data.toList with
        | nil => exact absurd hl hnil
        | cons => rfl
      have Hnil := Lib.hid hnil
      clear hnil
      rcases Hst.out with hst | ⟨rfl, -, hp, hall⟩
      · clear Hst
        have hkl : k ≤ s.size := by have := hst.kl; omega
        have hFk := hst.le
        have hnk : n ≤ k := by have := hst.many; rwa [Hn.out] at this
        have Hst := Lib.hid hst
        clear hst
        have hsl : ∀ wx : World, (Instr.slice 9 (.string s) (some (.int .i64 (F : Int))) (some (.int .i64 (k : Int))) none).run Tryz.prog wx = .ok (.string (s.extract F k)) wx := fun wx => by
          rw [run_slice_string_if (h := Tryz.underlying9), if_pos (by omega), if_pos (by omega)]
          rfl
        rcases (show k = s.size ∨ k < s.size by omega) with hke | hlt
        · have Hk : Hid (k = s.data.toList.length ∨ s.data.toList[k]? = some 44) := Lib.hid (.inl (by rw [hl0]; exact hke))
          have hkt : ((k : Int) == (s.size : Int)) = true := by simp [hke]
          have Hnext : Hid (wordL (s.extract F k).data.toList = true → (WS s.data.toList (k + 1) (k + 1) (done ++ [(s.extract F k).data.toList]) ∨ (k + 1 = s.size + 1 ∧ s.data.toList ≠ [] ∧ pcs 44 s.data.toList = done ++ [(s.extract F k).data.toList] ∧ (done ++ [(s.extract F k).data.toList]).all wordL = true))) := Lib.hid fun h => .inr (by subst hke; exact ⟨rfl, (hend Hst.out Hnil.out h).2⟩)
          clear hend hke
          have hwd := fun W => refIsWord_any (s.extract F k) (by rw [ByteArray.size_extract]; omega) W
          cases hb : wordL (s.extract F k).data.toList with
          | false =>
            rw [hb] at hwd
            have He : Hid (parseWords wordL s.data.toList = (zero, 40)) := Lib.hid (Hst.out.bad Hk.out (by rw [← Lib.extract_data]; exact hb) Hnil.out)
            clear hb
            go_wp2_with fail
            refine (hwd _).mono ?_
            rintro e w1 ⟨rfl, rfl⟩
            go_wp2_with fail
            generalize hW : World.setCell (World.setCell (World.setCell (World.setCell wr _ _) _ _) _ _) _ _ = W
            obtain ⟨⟨g0, g1, g2, g3⟩, hsW, hoth, hbel⟩ := four_done HM.out.res hW
            have HB := Lib.hid (hbel w.heap.size w HM.out.bel (Nat.le_refl _))
            have HO := Lib.hid hoth
            have HsW := Lib.hid hsW
            clear hW hbel hoth hsW
            (try simp only [Exit.inBlock, Exit.then])
            refine bodyPost_ret (by simp [results, Tryz.results30, go_sem, g0, g1, g2, g3]; try rfl) rfl ?_
            exact ⟨⟨_, by rw [He.out]; rfl, .inl ⟨by rw [He.out]; rfl, rfl⟩⟩, HB.out⟩
          | true =>
            rw [hb] at hwd
            obtain ⟨T, hT⟩ : ∃ T, s.extract F k = T := ⟨_, rfl⟩
            have HT := Lib.hid hT
            have hnx := Hnext.out hb
            rw [hT] at hsl hwd hnx
            have Hnx := Lib.hid hnx
            clear hT hb hnx
            by_cases h16 : n < 16
            · have hown := HM.out.own
              rw [Hn.out, Hm.out] at hown
              have Hown := Lib.hid hown
              clear hown
              have q3 : ∀ o : Obj, (wr.alloc o).cell? ⟨w.heap.size + 1, 3, none⟩ = some (.slice p m c) := fun o => (World.cell?_of_block (Below.heap_alloc wr o (w.heap.size + 1) (by omega))).trans d3
              go_wp2_with fail
              refine (hwd _).mono ?_
              rintro e w1 ⟨rfl, rfl⟩
              go_wp2_with fail
              go_region_law ((refine step_append_lit (by rfl) _ _ 25 (by rfl) 9 i0 _ 16 Tryz.underlying25 hi hz0 hz1 hz2 rfl _ 1 (by omega) (by rfl) (by rfl) (w.heap.size + 1 + 1) _ m _ (by rfl) Hown.out (by simp [Value.oneCell']) (by omega) (by omega) (by omega) ?_; intro g' cap' w1 hown1 hgrow hat hz hlt1; have HO1 := Lib.hid hown1; have HG1 := Lib.hid hgrow; have dd3 : w1.cell? ⟨w.heap.size + 1, 3, none⟩ = some (.slice p m c) := (hgrow.cell_far _ (by show w.heap.size + 1 < _; omega) (fun e => by have := (Hown.out.lt _ e.symm).1; have : w.heap.size + 1 + 1 ≤ w.heap.size + 1 := this; omega)).trans d3; have ee3 : w1.frozen? ⟨w.heap.size + 1, 3, none⟩ = false := (hgrow.frozen_far _ (by show w.heap.size + 1 < _; omega) (fun e => by have := (Hown.out.lt _ e.symm).1; have : w.heap.size + 1 + 1 ≤ w.heap.size + 1 := this; omega)).trans e3; clear hown1 hgrow hat))
              all_goals
                have HM2 : Hid (WM w (w1.setCell ⟨w.heap.size + 1, 3, none⟩ (.slice (some ⟨g', 0, none⟩) (m + 1) cap')) (.slice (some ⟨g', 0, none⟩) (m + 1) cap') (done ++ [T.data.toList])) := Lib.hid (HM.out.more Hn.out Hm.out h16 (by rw [B_toList]; exact HO1.out) HG1.out hsz)
                generalize w1.setCell ⟨w.heap.size + 1, 3, none⟩ (.slice (some ⟨g', 0, none⟩) (m + 1) cap') = W2 at *
                clear HO1 HG1 dd3 ee3 hlt1 hz
                go_wp2_with fail
                go_roundw
                case rel => exact ⟨k + 1, k + 1, n + 1, done ++ [T.data.toList], some ⟨g', 0, none⟩, cap', by go_num, by go_num, by go_num, by rw [List.length_append, Hn.out]; rfl, by omega, by omega, by omega, Hnx.out, by rw [show min (n + 1) 16 = m + 1 by have := Hm.out; omega]; exact HM2.out⟩
                case measure => simp [intOf]; omega
            · have hdec : decide ((n : Int) < 16) = false := by simp; omega
              have HM2 := Lib.hid (HM.out.over (pc := T.data.toList) (by rw [Hn.out]; omega))
              go_wp2_with fail
              refine (hwd _).mono ?_
              rintro e w1 ⟨rfl, rfl⟩
              go_wp2_with fail
              go_roundw
              case rel => exact ⟨k + 1, k + 1, n + 1, done ++ [T.data.toList], p, c, by go_num, by go_num, by go_num, by rw [List.length_append, Hn.out]; rfl, by omega, by omega, by omega, Hnx.out, by rw [show min (n + 1) 16 = m by have := Hm.out; omega]; exact HM2.out⟩
              case measure => simp [intOf]; omega
        · obtain ⟨b, hbl, hbk, hb0, hb1⟩ := byteAt s k hlt
          have hkf : ((k : Int) == (s.size : Int)) = false := by simp; omega
          clear hend
          by_cases hb44 : b = 44
          · subst hb44
            have Hk : Hid (k = s.data.toList.length ∨ s.data.toList[k]? = some 44) := Lib.hid (.inr hbl)
            have Hnext : Hid (wordL (s.extract F k).data.toList = true → (WS s.data.toList (k + 1) (k + 1) (done ++ [(s.extract F k).data.toList]) ∨ (k + 1 = s.size + 1 ∧ s.data.toList ≠ [] ∧ pcs 44 s.data.toList = done ++ [(s.extract F k).data.toList] ∧ (done ++ [(s.extract F k).data.toList]).all wordL = true))) := Lib.hid fun h => .inl (by rw [Lib.extract_data] at h ⊢; exact Hst.out.hit hbl h)
            clear hbl
            have hwd := fun W => refIsWord_any (s.extract F k) (by rw [ByteArray.size_extract]; omega) W
            cases hb : wordL (s.extract F k).data.toList with
            | false =>
              rw [hb] at hwd
              have He : Hid (parseWords wordL s.data.toList = (zero, 40)) := Lib.hid (Hst.out.bad Hk.out (by rw [← Lib.extract_data]; exact hb) Hnil.out)
              clear hb
              go_wp2_with fail
              refine (hwd _).mono ?_
              rintro e w1 ⟨rfl, rfl⟩
              go_wp2_with fail
              generalize hW : World.setCell (World.setCell (World.setCell (World.setCell wr _ _) _ _) _ _) _ _ = W
              obtain ⟨⟨g0, g1, g2, g3⟩, hsW, hoth, hbel⟩ := four_done HM.out.res hW
              have HB := Lib.hid (hbel w.heap.size w HM.out.bel (Nat.le_refl _))
              have HO := Lib.hid hoth
              have HsW := Lib.hid hsW
              clear hW hbel hoth hsW
              (try simp only [Exit.inBlock, Exit.then])
              refine bodyPost_ret (by simp [results, Tryz.results30, go_sem, g0, g1, g2, g3]; try rfl) rfl ?_
              exact ⟨⟨_, by rw [He.out]; rfl, .inl ⟨by rw [He.out]; rfl, rfl⟩⟩, HB.out⟩
            | true =>
              rw [hb] at hwd
              obtain ⟨T, hT⟩ : ∃ T, s.extract F k = T := ⟨_, rfl⟩
              have HT := Lib.hid hT
              have hnx := Hnext.out hb
              rw [hT] at hsl hwd hnx
              have Hnx := Lib.hid hnx
              clear hT hb hnx
              by_cases h16 : n < 16
              · have hown := HM.out.own
                rw [Hn.out, Hm.out] at hown
                have Hown := Lib.hid hown
                clear hown
                have q3 : ∀ o : Obj, (wr.alloc o).cell? ⟨w.heap.size + 1, 3, none⟩ = some (.slice p m c) := fun o => (World.cell?_of_block (Below.heap_alloc wr o (w.heap.size + 1) (by omega))).trans d3
                go_wp2_with fail
                refine (hwd _).mono ?_
                rintro e w1 ⟨rfl, rfl⟩
                go_wp2_with fail
                go_region_law ((refine step_append_lit (by rfl) _ _ 25 (by rfl) 9 i0 _ 16 Tryz.underlying25 hi hz0 hz1 hz2 rfl _ 1 (by omega) (by rfl) (by rfl) (w.heap.size + 1 + 1) _ m _ (by rfl) Hown.out (by simp [Value.oneCell']) (by omega) (by omega) (by omega) ?_; intro g' cap' w1 hown1 hgrow hat hz hlt1; have HO1 := Lib.hid hown1; have HG1 := Lib.hid hgrow; have dd3 : w1.cell? ⟨w.heap.size + 1, 3, none⟩ = some (.slice p m c) := (hgrow.cell_far _ (by show w.heap.size + 1 < _; omega) (fun e => by have := (Hown.out.lt _ e.symm).1; have : w.heap.size + 1 + 1 ≤ w.heap.size + 1 := this; omega)).trans d3; have ee3 : w1.frozen? ⟨w.heap.size + 1, 3, none⟩ = false := (hgrow.frozen_far _ (by show w.heap.size + 1 < _; omega) (fun e => by have := (Hown.out.lt _ e.symm).1; have : w.heap.size + 1 + 1 ≤ w.heap.size + 1 := this; omega)).trans e3; clear hown1 hgrow hat))
                all_goals
                  have HM2 : Hid (WM w (w1.setCell ⟨w.heap.size + 1, 3, none⟩ (.slice (some ⟨g', 0, none⟩) (m + 1) cap')) (.slice (some ⟨g', 0, none⟩) (m + 1) cap') (done ++ [T.data.toList])) := Lib.hid (HM.out.more Hn.out Hm.out h16 (by rw [B_toList]; exact HO1.out) HG1.out hsz)
                  generalize w1.setCell ⟨w.heap.size + 1, 3, none⟩ (.slice (some ⟨g', 0, none⟩) (m + 1) cap') = W2 at *
                  clear HO1 HG1 dd3 ee3 hlt1 hz
                  go_wp2_with fail
                  go_roundw
                  case rel => exact ⟨k + 1, k + 1, n + 1, done ++ [T.data.toList], some ⟨g', 0, none⟩, cap', by go_num, by go_num, by go_num, by rw [List.length_append, Hn.out]; rfl, by omega, by omega, by omega, Hnx.out, by rw [show min (n + 1) 16 = m + 1 by have := Hm.out; omega]; exact HM2.out⟩
                  case measure => simp [intOf]; omega
              · have hdec : decide ((n : Int) < 16) = false := by simp; omega
                have HM2 := Lib.hid (HM.out.over (pc := T.data.toList) (by rw [Hn.out]; omega))
                go_wp2_with fail
                refine (hwd _).mono ?_
                rintro e w1 ⟨rfl, rfl⟩
                go_wp2_with fail
                go_roundw
                case rel => exact ⟨k + 1, k + 1, n + 1, done ++ [T.data.toList], p, c, by go_num, by go_num, by go_num, by rw [List.length_append, Hn.out]; rfl, by omega, by omega, by omega, Hnx.out, by rw [show min (n + 1) 16 = m by have := Hm.out; omega]; exact HM2.out⟩
                case measure => simp [intOf]; omega
          · have hb44' : ((b.toNat : Int) == 44) = false := by
              rw [beq_eq_false_iff_ne]
              intro e
              exact hb44 (UInt8.toNat_inj.1 (by show b.toNat = 44; omega))
            have Hnx := Lib.hid (Hst.out.pass hbl hb44)
            clear hbl hb44
            go_wp2_with fail
            go_roundw
            case rel => exact ⟨F, k + 1, n, done, p, c, rfl, rfl, by go_num, Hn.out, hF, by omega, hn1, .inl Hnx.out, by rw [Hm.out]; exact HM.out⟩
            case measure => simp [intOf]; omega
      · have hle : decide ((((s.size + 1 : Nat) : Int)) ≤ (s.size : Int)) = false := by simp; omega
        have Hpw := Lib.hid (pw_end Hnil.out hp hall)
        clear hp hall hend Hst
        by_cases h16 : 16 < n
        · have He : Hid (parseWords wordL s.data.toList = (zero, 42)) := Lib.hid (by rw [Hpw.out, if_pos (.inr (by rw [Hn.out]; exact h16))])
          go_wp2_with fail
          generalize hW : World.setCell (World.setCell (World.setCell (World.setCell wr _ _) _ _) _ _) _ _ = W
          obtain ⟨⟨g0, g1, g2, g3⟩, hsW, hoth, hbel⟩ := four_done HM.out.res hW
          have HB := Lib.hid (hbel w.heap.size w HM.out.bel (Nat.le_refl _))
          have HO := Lib.hid hoth
          have HsW := Lib.hid hsW
          clear hW hbel hoth hsW
          (try simp only [Exit.inBlock, Exit.then])
          refine bodyPost_ret (by simp [results, Tryz.results30, go_sem, g0, g1, g2, g3]; try rfl) rfl ?_
          exact ⟨⟨_, by rw [He.out]; rfl, .inl ⟨by rw [He.out]; rfl, rfl⟩⟩, HB.out⟩
        · by_cases h200 : 200 < s.size
          · have He : Hid (parseWords wordL s.data.toList = (zero, 42)) := Lib.hid (by rw [Hpw.out, if_pos (.inl (by rw [hl0]; exact h200))])
            go_wp2_with fail
            generalize hW : World.setCell (World.setCell (World.setCell (World.setCell wr _ _) _ _) _ _) _ _ = W
            obtain ⟨⟨g0, g1, g2, g3⟩, hsW, hoth, hbel⟩ := four_done HM.out.res hW
            have HB := Lib.hid (hbel w.heap.size w HM.out.bel (Nat.le_refl _))
            have HO := Lib.hid hoth
            have HsW := Lib.hid hsW
            clear hW hbel hoth hsW
            (try simp only [Exit.inBlock, Exit.then])
            refine bodyPost_ret (by simp [results, Tryz.results30, go_sem, g0, g1, g2, g3]; try rfl) rfl ?_
            exact ⟨⟨_, by rw [He.out]; rfl, .inl ⟨by rw [He.out]; rfl, rfl⟩⟩, HB.out⟩
          · have He : Hid (parseWords wordL s.data.toList = (⟨6, 0, ByteArray.empty, done.map B⟩, 0)) := Lib.hid (by rw [Hpw.out, if_neg (by rw [hl0, Hn.out]; omega)])
            go_wp2_with fail
            generalize hW : World.setCell (World.setCell (World.setCell (World.setCell wr _ _) _ _) _ _) _ _ = W
            obtain ⟨⟨g0, g1, g2, g3⟩, hsW, hoth, hbel⟩ := four_done HM.out.res hW
            have HB := Lib.hid (hbel w.heap.size w HM.out.bel (Nat.le_refl _))
            have HO := Lib.hid hoth
            have HsW := Lib.hid hsW
            clear hW hbel hoth hsW
            (try simp only [Exit.inBlock, Exit.then])
            refine bodyPost_ret (by simp [results, Tryz.results30, go_sem, g0, g1, g2, g3]; try rfl) rfl ?_
            exact ⟨⟨_, by rw [He.out]; rfl, by rw [He.out]; exact (HM.out.fresh (by rw [Hn.out]; omega)).out HsW.out HO.out⟩, HB.out⟩
end Go.Proofs.YtkbamhecbfocbaaGreatDoor.va
