/- Laws and contracts on which the statement rests, part J: each text says what it proves, and its conditions. -/
import Derived.Test.YtbelnaiekbfoiaaGreatDoorMdI
import Derived.Test.YtbelnaiekbfoiaaGreatDoorMdB
import Derived.Deep.RegionHeld3
import Derived.Deep.RegionLaw
import Derived.StillTactics
import Derived.Test.YtbelnaiekbfoiaaGreatDoorMdF
import Derived.Test.YtbelnaiekbfoiaaGreatDoorMdE
import Derived.ArgAppend
/- The reference's words returns the plain function. Condition: the text is no longer than 2147483647 bytes. -/
namespace Go.Proofs.YtbelnaiekbfoiaaGreatDoor.va
open Go.ChangeShapes Go.WideShapes Go.ChangeAt Go.RowKit gl

/-- New strings in memory of their own. -/
def FreshR (w w' : World) (sl : Value) (xs : List ByteArray) : Prop :=
  (xs = [] ∧ sl = .slice none 0 0) ∨ ∃ g c cs, sl = .slice (some ⟨g, 0, none⟩) xs.length c ∧ xs.length ≤ c ∧ w.heap.size < g ∧ w'.heap[g]? = some (.cells cs 9 (0, 0)) ∧ ∀ (j : Nat) x, xs[j]? = some x → cs[j]? = some (.string x)
theorem FreshR.strs {w w' : World} {sl : Value} {xs : List ByteArray} (h : FreshR w w' sl xs) : Strs w' sl xs := by
  rcases h with ⟨rfl, rfl⟩ | ⟨g, c, cs, rfl, hc, _, hg, hat⟩
  · exact ⟨none, 0, rfl, Nat.le_refl _, .inl rfl⟩
  · exact ⟨_, c, rfl, hc, .inr ⟨g, 0, rfl, lt_of_block hg, fun j x hj => by rw [Nat.zero_add, cell_of_row _ _ _ _ _ _ hg]; exact hat j x hj⟩⟩
theorem FreshR.out {w w1 W : World} {sl : Value} {xs : List ByteArray} (h : FreshR w w1 sl xs) (_hs : W.heap.size = w1.heap.size) (hW : ∀ k : Nat, k ≠ w.heap.size → W.heap[k]? = w1.heap[k]?) : FreshR w W sl xs := by
  rcases h with h | ⟨g, c, cs, rfl, hc, h1, h2, hat⟩
  · exact .inl h
  · exact .inr ⟨g, c, cs, rfl, hc, h1, (hW g (by omega)).trans h2, hat⟩
def RefOut (r : Val × Int) (w : World) (e : Ending) (w' : World) : Prop := ∃ sl, e = .returned (res r sl) ∧ FreshR w w' sl r.1.words

/-- k bytes have been passed; the piece that is read begins at f; 'done' are the pieces before, words all. -/
structure WS (l : List UInt8) (f k : Nat) (done : List (List UInt8)) : Prop where
  le : f ≤ k
  kl : k ≤ l.length
  eq : pcs 44 l = done ++ pcs 44 (l.drop f)
  free : ∀ j, f ≤ j → j < k → l[j]? ≠ some 44
  ok : done.all wordL = true
  many : done.length ≤ k
theorem WS.start (l : List UInt8) : WS l 0 0 [] := ⟨by omega, by omega, rfl, fun j _ h => by omega, rfl, by simp⟩
theorem WS.pass {l : List UInt8} {f k : Nat} {done : List (List UInt8)} {b : UInt8} (h : WS l f k done) (hb : l[k]? = some b) (hne : b ≠ 44) : WS l f (k + 1) done :=
  ⟨by have := h.le; omega, by have := lt_of_get hb; omega, h.eq, fun j h1 h2 => by
    rcases Nat.lt_or_ge j k with h3 | h3
    · exact h.free j h1 h3
    · obtain rfl : j = k := by omega
      rw [hb]; exact fun e => hne (Option.some.inj e), h.ok, by have := h.many; omega⟩
theorem WS.piece {l : List UInt8} {f k : Nat} {done : List (List UInt8)} (h : WS l f k done) (hb : l[k]? = some 44) : pcs 44 (l.drop f) = (l.drop f).take (k - f) :: pcs 44 (l.drop (k + 1)) := by
  have hle := h.le
  have := pcs_hit 44 (k - f) (l.drop f) (fun j hj => by rw [List.getElem?_drop]; exact h.free (f + j) (by omega) (by omega)) (by rw [List.getElem?_drop, show f + (k - f) = k by omega]; exact hb)
  rw [List.drop_drop, show f + (k - f + 1) = k + 1 by omega] at this
  exact this
theorem WS.lastp {l : List UInt8} {f : Nat} {done : List (List UInt8)} (h : WS l f l.length done) : pcs 44 (l.drop f) = [(l.drop f).take (l.length - f)] := by
  rw [List.take_of_length_le (by simp)]
  exact pcs_none 44 _ fun j => by
    rw [List.getElem?_drop]
    rcases Nat.lt_or_ge (f + j) l.length with h1 | h1
    · exact h.free _ (by omega) h1
    · rw [List.getElem?_eq_none h1]; simp
theorem WS.hit {l : List UInt8} {f k : Nat} {done : List (List UInt8)} (h : WS l f k done) (hb : l[k]? = some 44) (hp : wordL ((l.drop f).take (k - f)) = true) : WS l (k + 1) (k + 1) (done ++ [(l.drop f).take (k - f)]) :=
  ⟨Nat.le_refl _, by have := lt_of_get hb; omega, by rw [h.eq, h.piece hb]; simp, fun j h1 h2 => by omega, by rw [List.all_append, h.ok]; simpa using hp, by have := h.many; simp; omega⟩
theorem WS.fin {l : List UInt8} {f : Nat} {done : List (List UInt8)} (h : WS l f l.length done) (hp : wordL ((l.drop f).take (l.length - f)) = true) : pcs 44 l = done ++ [(l.drop f).take (l.length - f)] ∧ (pcs 44 l).all wordL = true := by
  have e : pcs 44 l = done ++ [(l.drop f).take (l.length - f)] := by rw [h.eq, h.lastp]
  exact ⟨e, by rw [e, List.all_append, h.ok]; simpa using hp⟩
theorem WS.bad {l : List UInt8} {f k : Nat} {done : List (List UInt8)} (h : WS l f k done) (hb : k = l.length ∨ l[k]? = some 44) (hp : wordL ((l.drop f).take (k - f)) = false) (hl : l ≠ []) : parseWords wordL l = (zero, 40) := by
  have hf : (pcs 44 l).all wordL = false := by
    rw [h.eq, List.all_append]
    rcases hb with rfl | hb
    · rw [h.lastp]; simp [hp]
    · rw [h.piece hb]; simp [hp]
  unfold parseWords
  rw [if_neg hl, hf]
  rfl
theorem pw_end {l : List UInt8} {done : List (List UInt8)} (hl : l ≠ []) (h : pcs 44 l = done) (ha : done.all wordL = true) : parseWords wordL l = if 200 < l.length ∨ 16 < done.length then (zero, 42) else (⟨6, 0, ByteArray.empty, done.map B⟩, 0) := by
  unfold parseWords
  rw [if_neg hl, h, ha]
  rfl

/-- What the loop keeps. -/
structure WM (w wr : World) (sl : Value) (done : List (List UInt8)) : Prop where
  res : wr.heap[w.heap.size]? = some (.cells #[.int .i64 0, .int .i64 0, .string ⟨#[]⟩, .slice none 0 0] 45 (0, 0))
  val : wr.heap[w.heap.size + 1]? = some (.cells #[.int .i64 6, .int .i64 0, .string ⟨#[]⟩, sl] 45 (0, 0))
  own : wr.ownsRow (w.heap.size + 1 + 1) 9 1 sl (min done.length 16) (((done.take 16).map B).map Value.string)
  bel : Below w.heap.size w wr
theorem WM.fresh {w wr : World} {sl : Value} {done : List (List UInt8)} (h : WM w wr sl done) (h16 : done.length ≤ 16) : FreshR w wr sl (done.map B) := by
  have ho := h.own
  rw [Nat.min_eq_left h16, List.take_of_length_le h16] at ho
  rcases ho.2 with ⟨rfl, h0⟩ | ⟨g, cap, cur, rfl, hg, hb, hnc, _, _, htake⟩
  · have : done.length = 0 := by omega
    obtain rfl : done = [] := List.eq_nil_of_length_eq_zero this
    exact .inl ⟨rfl, rfl⟩
  · refine .inr ⟨g, cap, cur, by simp, by simpa using hnc, by omega, hb, fun j x hj => ?_⟩
    have hj2 : ((done.map B).map Value.string)[j]? = some (.string x) := by rw [List.getElem?_map, hj]; rfl
    rw [← htake, List.getElem?_take_of_lt (by have := lt_of_get hj; simp at this; omega)] at hj2
    rwa [Array.getElem?_toList] at hj2
theorem take_more {done : List (List UInt8)} {pc : List UInt8} (hlt : done.length < 16) : (((done ++ [pc]).take 16).map B).map Value.string = ((done.take 16).map B).map Value.string ++ [Value.string (B pc)] := by
  rw [List.take_of_length_le (by simp; omega), List.take_of_length_le (by omega)]
  simp
theorem WM.more {w wr w1 : World} {sl : Value} {done : List (List UInt8)} {pc : List UInt8} {n m g cap : Nat} (h : WM w wr sl done) (hn : done.length = n) (hm : min n 16 = m) (hlt : n < 16)
    (hown : w1.ownsRow (w.heap.size + 1 + 1) 9 1 (.slice (some ⟨g, 0, none⟩) (m + 1) cap) (m + 1) (((done.take 16).map B).map Value.string ++ [Value.string (B pc)])) (hgrow : wr.grownBy w1 sl.ownBlock) (hsz : w.heap.size + 1 + 1 ≤ wr.heap.size) :
    WM w (w1.setCell ⟨w.heap.size + 1, 3, none⟩ (.slice (some ⟨g, 0, none⟩) (m + 1) cap)) (.slice (some ⟨g, 0, none⟩) (m + 1) cap) (done ++ [pc]) := by
  have hfar : ∀ k, k < w.heap.size + 1 + 1 → w1.heap[k]? = wr.heap[k]? := fun k hk => hgrow.block k (by omega) fun e => by have := (h.own.lt k e.symm).1; omega
  refine ⟨heap_set_ne ((hfar _ (by omega)).trans h.res) _ (by simp), ?_, ?_, ?_⟩
  · have := heap_set (o := 3) ((hfar (w.heap.size + 1) (by omega)).trans h.val) (.slice (some ⟨g, 0, none⟩) (m + 1) cap)
    exact this
  · rw [take_more (by omega), show min (done ++ [pc]).length 16 = m + 1 by simp; omega]
    exact ownsRow_setCell_below hown (by show w.heap.size + 1 < _; omega) _
  · exact (h.bel.grown hgrow (by omega) fun k hk => by have := (h.own.lt k hk).1; omega).setCell (by show w.heap.size ≤ w.heap.size + 1; omega) _
theorem WM.over {w wr : World} {sl : Value} {done : List (List UInt8)} {pc : List UInt8} (h : WM w wr sl done) (hn : 16 ≤ done.length) : WM w wr sl (done ++ [pc]) := by
  refine ⟨h.res, h.val, ?_, h.bel⟩
  have := h.own
  rw [Nat.min_eq_right hn] at this
  rw [Nat.min_eq_right (by simp; omega), List.take_append_of_le_length hn]
  exact this

set_option maxHeartbeats 1000000 in
set_option maxRecDepth 100000 in
theorem refWords_any (s : ByteArray) (hs : s.size ≤ 2147483647) (w : World) :
    Calls Tryz.prog 143 #[.string s] w fun e w' => RefOut (parseWords wordL s.data.toList) w e w' ∧ Below w.heap.size w w' := by
  obtain ⟨i0, hi, hz0, hz1, hz2⟩ := info_parts infoStr
  have hl0 : s.data.toList.length = s.size := by simp
  have hend : ∀ {F : Nat} {done : List (List UInt8)}, WS s.data.toList F s.size done → s.data.toList ≠ [] → wordL (s.extract F s.size).data.toList = true → (s.size : Nat) + 1 = s.size + 1 ∧ s.data.toList ≠ [] ∧ pcs 44 s.data.toList = done ++ [(s.extract F s.size).data.toList] ∧ (done ++ [(s.extract F s.size).data.toList]).all wordL = true := by
    intro F done h hne hp
    rw [Lib.extract_data] at hp ⊢
    rw [← hl0] at h hp ⊢
    obtain ⟨e1, e2⟩ := h.fin hp
    exact ⟨rfl, hne, e1, e1 ▸ e2⟩
  go_enter Tryz.func143, Tryz.ntmps143
  go_wp2_with fail
  go_loopw [5, 6, 7] (fun f m i wr => ∃ (F k n : Nat) (done : List (List UInt8)) (p : Option Addr) (c : Nat), f = .int .i64 F ∧ m = .int .i64 n ∧ i = .int .i64 k ∧ done.length = n ∧ F ≤ s.size + 1 ∧ k ≤ s.size + 1 ∧ n ≤ s.size + 1 ∧
    (WS s.data.toList F k done ∨ (k = s.size + 1 ∧ s.data.toList ≠ [] ∧ pcs 44 s.data.toList = done ∧ done.all wordL = true)) ∧ WM w wr (.slice p (min n 16) c) done) (fun _ _ i _ => s.size + 1 - (intOf i).toNat)
  case atStart =>
    refine ⟨0, 0, 0, [], none, 0, rfl, rfl, rfl, rfl, by omega, by omega, by omega, .inl (WS.start _), ?_, ?_, ?_, ?_⟩
    · rw [heap_al (heap_alloc_new w _) _]
    · have := heap_alloc_new (w.alloc (.cells #[.int .i64 0, .int .i64 0, .string ⟨#[]⟩, .slice none 0 0] 45)) (.cells #[.int .i64 6, .int .i64 0, .string ⟨#[]⟩, .slice none 0 0] 45)
      simpa using this
    · exact ⟨rfl, .inl ⟨rfl, rfl⟩⟩
    · exact ((Below.refl _ w).alloc (Nat.le_refl _) _).alloc (by simp) _
  case round =>
    obtain ⟨F, k, n, done, p, c, rfl, rfl, rfl, hn, hF, hk, hn1, hst, hM⟩ := hrel
    obtain ⟨m, hm⟩ : ∃ m, min n 16 = m := ⟨_, rfl⟩
    rw [hm] at hM
    have hm16 : m ≤ 16 := by omega
    have hmn : m ≤ n := by omega
    have Hn := Lib.hid hn
    have Hm := Lib.hid hm
    have HM := Lib.hid hM
    have hsz : w.heap.size + 1 + 1 ≤ wr.heap.size := by have := lt_of_block hM.val; omega
    have hc := fun j => cell_of_row wr w.heap.size j _ _ _ hM.res
    have hd := fun j => cell_of_row wr (w.heap.size + 1) j _ _ _ hM.val
    have hf := fun j => frozen_of_row wr w.heap.size j _ _ hM.res
    have he := fun j => frozen_of_row wr (w.heap.size + 1) j _ _ hM.val
    have c0 := hc 0; have c1 := hc 1; have c2 := hc 2; have c3 := hc 3
    have d0 := hd 0; have d1 := hd 1; have d2 := hd 2; have d3 := hd 3
    have f0 := hf 0; have f1 := hf 1; have f2 := hf 2; have f3 := hf 3
    have e0 := he 0; have e1 := he 1; have e2 := he 2; have e3 := he 3
    simp only [List.getElem?_toArray, List.getElem?_cons_succ, List.getElem?_cons_zero] at c0 c1 c2 c3 d0 d1 d2 d3
    have Hst := Lib.hid hst
    clear hn hm hM hc hd hf he hst
    by_cases hnil : s.data.toList = []
    · have hemp : s.toList.isEmpty = true := by rw [ByteArray.toList_eq, hnil]; rfl
      have hsz0 : s.size = 0 := by rw [← hl0, hnil]; rfl
      obtain ⟨rfl, hn0⟩ : k = 0 ∧ n = 0 := by
        rcases Hst.out with h | ⟨_, h, _⟩
        · have h1 := h.kl
          have h2 := h.many
          rw [Hn.out] at h2
          omega
        · exact absurd hnil h
      subst hn0
      have hd0 : done = [] := List.eq_nil_of_length_eq_zero Hn.out
      have Hp : Hid (parseWords wordL s.data.toList = (⟨6, 0, ByteArray.empty, done.map B⟩, 0)) := Lib.hid (by rw [hnil, hd0]; rfl)
      clear hnil hd0
      have Hpw : Hid (parseWords wordL s.data.toList = if 200 < s.data.toList.length ∨ 16 < done.length then (zero, 42) else (⟨6, 0, ByteArray.empty, done.map B⟩, 0)) := Lib.hid (by rw [if_neg (by rw [hl0, Hn.out]; omega)]; exact Hp.out)
      have He := Hp
      go_wp2_with fail
      generalize hW : World.setCell (World.setCell (World.setCell (World.setCell wr _ _) _ _) _ _) _ _ = W
      obtain ⟨⟨g0, g1, g2, g3⟩, hsW, hoth, hbel⟩ := four_done HM.out.res hW
      have HB := Lib.hid (hbel w.heap.size w HM.out.bel (Nat.le_refl _))
      have HO := Lib.hid hoth
      have HsW := Lib.hid hsW
      clear hW hbel hoth hsW
      (try simp only [Exit.inBlock, Exit.then])
      refine bodyPost_ret (by simp [results, Tryz.results143, go_sem, g0, g1, g2, g3]; try rfl) rfl ?_
      exact ⟨⟨_, by rw [He.out]; rfl, by rw [He.out]; exact (HM.out.fresh (by rw [Hn.out]; omega)).out HsW.out HO.out⟩, HB.out⟩
    · have hemp : s.toList.isEmpty = false := by
        rw [ByteArray.toList_eq]
        cases hl : s.data.toList with
        | nil => exact absurd hl hnil
        | cons => rfl
      have Hnil := Lib.hid hnil
      clear hnil
      rcases Hst.out with hst | ⟨rfl, -, hp, hall⟩
      · clear Hst
        have hkl : k ≤ s.size := by have := hst.kl; omega
        have hFk := hst.le
        have hnk : n ≤ k := by have := hst.many; rwa [Hn.out] at this
        have Hst := Lib.hid hst
        clear hst
        have hsl : ∀ wx : World, (Instr.slice 9 (.string s) (some (.int .i64 (F : Int))) (some (.int .i64 (k : Int))) none).run Tryz.prog wx = .ok (.string (s.extract F k)) wx := fun wx => by
          rw [run_slice_string_if (h := Tryz.underlying9), if_pos (by omega), if_pos (by omega)]
          rfl
        rcases (show k = s.size ∨ k < s.size by omega) with hke | hlt
        · have Hk : Hid (k = s.data.toList.length ∨ s.data.toList[k]? = some 44) := Lib.hid (.inl (by rw [hl0]; exact hke))
          have hkt : ((k : Int) == (s.size : Int)) = true := by simp [hke]
          have Hnext : Hid (wordL (s.extract F k).data.toList = true → (WS s.data.toList (k + 1) (k + 1) (done ++ [(s.extract F k).data.toList]) ∨ (k + 1 = s.size + 1 ∧ s.data.toList ≠ [] ∧ pcs 44 s.data.toList = done ++ [(s.extract F k).data.toList] ∧ (done ++ [(s.extract F k).data.toList]).all wordL = true))) := Lib.hid fun h => .inr (by subst hke; exact ⟨rfl, (hend Hst.out Hnil.out h).2⟩)
          clear hend hke
          have hwd := fun W => refIsWord_any (s.extract F k) (by rw [ByteArray.size_extract]; omega) W
          cases hb : wordL (s.extract F k).data.toList with
          | false =>
            rw [hb] at hwd
            have He : Hid (parseWords wordL s.data.toList = (zero, 40)) := Lib.hid (Hst.out.bad Hk.out (by rw [← Lib.extract_data]; exact hb) Hnil.out)
            clear hb
            go_wp2_with fail
            refine (hwd _).mono ?_
            rintro e w1 ⟨rfl, rfl⟩
            go_wp2_with fail
            generalize hW : World.setCell (World.setCell (World.setCell (World.setCell wr _ _) _ _) _ _) _ _ = W
            obtain ⟨⟨g0, g1, g2, g3⟩, hsW, hoth, hbel⟩ := four_done HM.out.res hW
            have HB := Lib.hid (hbel w.heap.size w HM.out.bel (Nat.le_refl _))
            have HO := Lib.hid hoth
            have HsW := Lib.hid hsW
            clear hW hbel hoth hsW
            (try simp only [Exit.inBlock, Exit.then])
            refine bodyPost_ret (by simp [results, Tryz.results143, go_sem, g0, g1, g2, g3]; try rfl) rfl ?_
            exact ⟨⟨_, by rw [He.out]; rfl, .inl ⟨by rw [He.out]; rfl, rfl⟩⟩, HB.out⟩
          | true =>
            rw [hb] at hwd
            obtain ⟨T, hT⟩ : ∃ T, s.extract F k = T := ⟨_, rfl⟩
            have HT := Lib.hid hT
            have hnx := Hnext.out hb
            rw [hT] at hsl hwd hnx
            have Hnx := Lib.hid hnx
            clear hT hb hnx
            by_cases h16 : n < 16
            · have hown := HM.out.own
              rw [Hn.out, Hm.out] at hown
              have Hown := Lib.hid hown
              clear hown
              have q3 : ∀ o : Obj, (wr.alloc o).cell? ⟨w.heap.size + 1, 3, none⟩ = some (.slice p m c) := fun o => (World.cell?_of_block (Below.heap_alloc wr o (w.heap.size + 1) (by omega))).trans d3
              go_wp2_with fail
              refine (hwd _).mono ?_
              rintro e w1 ⟨rfl, rfl⟩
              go_wp2_with fail
              go_region_law ((refine step_append_lit (by rfl) _ _ 24 (by rfl) 9 i0 _ 16 Tryz.underlying24 hi hz0 hz1 hz2 rfl _ 1 (by omega) (by rfl) (by rfl) (w.heap.size + 1 + 1) _ m _ (by rfl) Hown.out (by simp [Value.oneCell']) (by omega) (by omega) (by omega) ?_; intro g' cap' w1 hown1 hgrow hat hz hlt1; have HO1 := Lib.hid hown1; have HG1 := Lib.hid hgrow; have dd3 : w1.cell? ⟨w.heap.size + 1, 3, none⟩ = some (.slice p m c) := (hgrow.cell_far _ (by show w.heap.size + 1 < _; omega) (fun e => by have := (Hown.out.lt _ e.symm).1; have : w.heap.size + 1 + 1 ≤ w.heap.size + 1 := this; omega)).trans d3; have ee3 : w1.frozen? ⟨w.heap.size + 1, 3, none⟩ = false := (hgrow.frozen_far _ (by show w.heap.size + 1 < _; omega) (fun e => by have := (Hown.out.lt _ e.symm).1; have : w.heap.size + 1 + 1 ≤ w.heap.size + 1 := this; omega)).trans e3; clear hown1 hgrow hat))
              all_goals
                have HM2 : Hid (WM w (w1.setCell ⟨w.heap.size + 1, 3, none⟩ (.slice (some ⟨g', 0, none⟩) (m + 1) cap')) (.slice (some ⟨g', 0, none⟩) (m + 1) cap') (done ++ [T.data.toList])) := Lib.hid (HM.out.more Hn.out Hm.out h16 (by rw [B_toList]; exact HO1.out) HG1.out hsz)
                generalize w1.setCell ⟨w.heap.size + 1, 3, none⟩ (.slice (some ⟨g', 0, none⟩) (m + 1) cap') = W2 at *
                clear HO1 HG1 dd3 ee3 hlt1 hz
                go_wp2_with fail
                go_roundw
                case rel => exact ⟨k + 1, k + 1, n + 1, done ++ [T.data.toList], some ⟨g', 0, none⟩, cap', by go_num, by go_num, by go_num, by rw [List.length_append, Hn.out]; rfl, by omega, by omega, by omega, Hnx.out, by rw [show min (n + 1) 16 = m + 1 by have := Hm.out; omega]; exact HM2.out⟩
                case measure => simp [intOf]; omega
            · have hdec : decide ((n : Int) < 16) = false := by simp; omega
              have HM2 := Lib.hid (HM.out.over (pc := T.data.toList) (by rw [Hn.out]; omega))
              go_wp2_with fail
              refine (hwd _).mono ?_
              rintro e w1 ⟨rfl, rfl⟩
              go_wp2_with fail
              go_roundw
              case rel => exact ⟨k + 1, k + 1, n + 1, done ++ [T.data.toList], p, c, by go_num, by go_num, by go_num, by rw [List.length_append, Hn.out]; rfl, by omega, by omega, by omega, Hnx.out, by rw [show min (n + 1) 16 = m by have := Hm.out; omega]; exact HM2.out⟩
              case measure => simp [intOf]; omega
        · obtain ⟨b, hbl, hbk, hb0, hb1⟩ := byteAt s k hlt
          have hkf : ((k : Int) == (s.size : Int)) = false := by simp; omega
          clear hend
          by_cases hb44 : b = 44
          · subst hb44
            have Hk : Hid (k = s.data.toList.length ∨ s.data.toList[k]? = some 44) := Lib.hid (.inr hbl)
            have Hnext : Hid (wordL (s.extract F k).data.toList = true → (WS s.data.toList (k + 1) (k + 1) (done ++ [(s.extract F k).data.toList]) ∨ (k + 1 = s.size + 1 ∧ s.data.toList ≠ [] ∧ pcs 44 s.data.toList = done ++ [(s.extract F k).data.toList] ∧ (done ++ [(s.extract F k).data.toList]).all wordL = true))) := Lib.hid fun h => .inl (by rw [Lib.extract_data] at h ⊢; exact Hst.out.hit hbl h)
            clear hbl
            have hwd := fun W => refIsWord_any (s.extract F k) (by rw [ByteArray.size_extract]; omega) W
            cases hb : wordL (s.extract F k).data.toList with
            | false =>
              rw [hb] at hwd
              have He : Hid (parseWords wordL s.data.toList = (zero, 40)) := Lib.hid (Hst.out.bad Hk.out (by rw [← Lib.extract_data]; exact hb) Hnil.out)
              clear hb
              go_wp2_with fail
              refine (hwd _).mono ?_
              rintro e w1 ⟨rfl, rfl⟩
              go_wp2_with fail
              generalize hW : World.setCell (World.setCell (World.setCell (World.setCell wr _ _) _ _) _ _) _ _ = W
              obtain ⟨⟨g0, g1, g2, g3⟩, hsW, hoth, hbel⟩ := four_done HM.out.res hW
              have HB := Lib.hid (hbel w.heap.size w HM.out.bel (Nat.le_refl _))
              have HO := Lib.hid hoth
              have HsW := Lib.hid hsW
              clear hW hbel hoth hsW
              (try simp only [Exit.inBlock, Exit.then])
              refine bodyPost_ret (by simp [results, Tryz.results143, go_sem, g0, g1, g2, g3]; try rfl) rfl ?_
              exact ⟨⟨_, by rw [He.out]; rfl, .inl ⟨by rw [He.out]; rfl, rfl⟩⟩, HB.out⟩
            | true =>
              rw [hb] at hwd
              obtain ⟨T, hT⟩ : ∃ T, s.extract F k = T := ⟨_, rfl⟩
              have HT := Lib.hid hT
              have hnx := Hnext.out hb
              rw [hT] at hsl hwd hnx
              have Hnx := Lib.hid hnx
              clear hT hb hnx
              by_cases h16 : n < 16
              · have hown := HM.out.own
                rw [Hn.out, Hm.out] at hown
                have Hown := Lib.hid hown
                clear hown
                have q3 : ∀ o : Obj, (wr.alloc o).cell? ⟨w.heap.size + 1, 3, none⟩ = some (.slice p m c) := fun o => (World.cell?_of_block (Below.heap_alloc wr o (w.heap.size + 1) (by omega))).trans d3
                go_wp2_with fail
                refine (hwd _).mono ?_
                rintro e w1 ⟨rfl, rfl⟩
                go_wp2_with fail
                go_region_law ((refine step_append_lit (by rfl) _ _ 24 (by rfl) 9 i0 _ 16 Tryz.underlying24 hi hz0 hz1 hz2 rfl _ 1 (by omega) (by rfl) (by rfl) (w.heap.size + 1 + 1) _ m _ (by rfl) Hown.out (by simp [Value.oneCell']) (by omega) (by omega) (by omega) ?_; intro g' cap' w1 hown1 hgrow hat hz hlt1; have HO1 := Lib.hid hown1; have HG1 := Lib.hid hgrow; have dd3 : w1.cell? ⟨w.heap.size + 1, 3, none⟩ = some (.slice p m c) := (hgrow.cell_far _ (by show w.heap.size + 1 < _; omega) (fun e => by have := (Hown.out.lt _ e.symm).1; have : w.heap.size + 1 + 1 ≤ w.heap.size + 1 := this; omega)).trans d3; have ee3 : w1.frozen? ⟨w.heap.size + 1, 3, none⟩ = false := (hgrow.frozen_far _ (by show w.heap.size + 1 < _; omega) (fun e => by have := (Hown.out.lt _ e.symm).1; have : w.heap.size + 1 + 1 ≤ w.heap.size + 1 := this; omega)).trans e3; clear hown1 hgrow hat))
                all_goals
                  have HM2 : Hid (WM w (w1.setCell ⟨w.heap.size + 1, 3, none⟩ (.slice (some ⟨g', 0, none⟩) (m + 1) cap')) (.slice (some ⟨g', 0, none⟩) (m + 1) cap') (done ++ [T.data.toList])) := Lib.hid (HM.out.more Hn.out Hm.out h16 (by rw [B_toList]; exact HO1.out) HG1.out hsz)
                  generalize w1.setCell ⟨w.heap.size + 1, 3, none⟩ (.slice (some ⟨g', 0, none⟩) (m + 1) cap') = W2 at *
                  clear HO1 HG1 dd3 ee3 hlt1 hz
                  go_wp2_with fail
                  go_roundw
                  case rel => exact ⟨k + 1, k + 1, n + 1, done ++ [T.data.toList], some ⟨g', 0, none⟩, cap', by go_num, by go_num, by go_num, by rw [List.length_append, Hn.out]; rfl, by omega, by omega, by omega, Hnx.out, by rw [show min (n + 1) 16 = m + 1 by have := Hm.out; omega]; exact HM2.out⟩
                  case measure => simp [intOf]; omega
              · have hdec : decide ((n : Int) < 16) = false := by simp; omega
                have HM2 := Lib.hid (HM.out.over (pc := T.data.toList) (by rw [Hn.out]; omega))
                go_wp2_with fail
                refine (hwd _).mono ?_
                rintro e w1 ⟨rfl, rfl⟩
                go_wp2_with fail
                go_roundw
                case rel => exact ⟨k + 1, k + 1, n + 1, done ++ [T.data.toList], p, c, by go_num, by go_num, by go_num, by rw [List.length_append, Hn.out]; rfl, by omega, by omega, by omega, Hnx.out, by rw [show min (n + 1) 16 = m by have := Hm.out; omega]; exact HM2.out⟩
                case measure => simp [intOf]; omega
          · have hb44' : ((b.toNat : Int) == 44) = false := by
              rw [beq_eq_false_iff_ne]
              intro e
              exact hb44 (UInt8.toNat_inj.1 (by show b.toNat = 44; omega))
            have Hnx := Lib.hid (Hst.out.pass hbl hb44)
            clear hbl hb44
            go_wp2_with fail
            go_roundw
            case rel => exact ⟨F, k + 1, n, done, p, c, rfl, rfl, by go_num, Hn.out, hF, by omega, hn1, .inl Hnx.out, by rw [Hm.out]; exact HM.out⟩
            case measure => simp [intOf]; omega
      · have hle : decide ((((s.size + 1 : Nat) : Int)) ≤ (s.size : Int)) = false := by simp; omega
        have Hpw := Lib.hid (pw_end Hnil.out hp hall)
        clear hp hall hend Hst
        by_cases h16 : 16 < n
        · have He : Hid (parseWords wordL s.data.toList = (zero, 42)) := Lib.hid (by rw [Hpw.out, if_pos (.inr (by rw [Hn.out]; exact h16))])
          go_wp2_with fail
          generalize hW : World.setCell (World.setCell (World.setCell (World.setCell wr _ _) _ _) _ _) _ _ = W
          obtain ⟨⟨g0, g1, g2, g3⟩, hsW, hoth, hbel⟩ := four_done HM.out.res hW
          have HB := Lib.hid (hbel w.heap.size w HM.out.bel (Nat.le_refl _))
          have HO := Lib.hid hoth
          have HsW := Lib.hid hsW
          clear hW hbel hoth hsW
          (try simp only [Exit.inBlock, Exit.then])
          refine bodyPost_ret (by simp [results, Tryz.results143, go_sem, g0, g1, g2, g3]; try rfl) rfl ?_
          exact ⟨⟨_, by rw [He.out]; rfl, .inl ⟨by rw [He.out]; rfl, rfl⟩⟩, HB.out⟩
        · by_cases h200 : 200 < s.size
          · have He : Hid (parseWords wordL s.data.toList = (zero, 42)) := Lib.hid (by rw [Hpw.out, if_pos (.inl (by rw [hl0]; exact h200))])
            go_wp2_with fail
            generalize hW : World.setCell (World.setCell (World.setCell (World.setCell wr _ _) _ _) _ _) _ _ = W
            obtain ⟨⟨g0, g1, g2, g3⟩, hsW, hoth, hbel⟩ := four_done HM.out.res hW
            have HB := Lib.hid (hbel w.heap.size w HM.out.bel (Nat.le_refl _))
            have HO := Lib.hid hoth
            have HsW := Lib.hid hsW
            clear hW hbel hoth hsW
            (try simp only [Exit.inBlock, Exit.then])
            refine bodyPost_ret (by simp [results, Tryz.results143, go_sem, g0, g1, g2, g3]; try rfl) rfl ?_
            exact ⟨⟨_, by rw [He.out]; rfl, .inl ⟨by rw [He.out]; rfl, rfl⟩⟩, HB.out⟩
          · have He : Hid (parseWords wordL s.data.toList = (⟨6, 0, ByteArray.empty, done.map B⟩, 0)) := Lib.hid (by rw [Hpw.out, if_neg (by rw [hl0, Hn.out]; omega)])
            go_wp2_with fail
            generalize hW : World.setCell (World.setCell (World.setCell (World.setCell wr _ _) _ _) _ _) _ _ = W
            obtain ⟨⟨g0, g1, g2, g3⟩, hsW, hoth, hbel⟩ := four_done HM.out.res hW
            have HB := Lib.hid (hbel w.heap.size w HM.out.bel (Nat.le_refl _))
            have HO := Lib.hid hoth
            have HsW := Lib.hid hsW
            clear hW hbel hoth hsW
            (try simp only [Exit.inBlock, Exit.then])
            refine bodyPost_ret (by simp [results, Tryz.results143, go_sem, g0, g1, g2, g3]; try rfl) rfl ?_
            exact ⟨⟨_, by rw [He.out]; rfl, by rw [He.out]; exact (HM.out.fresh (by rw [Hn.out]; omega)).out HsW.out HO.out⟩, HB.out⟩
end Go.Proofs.YtbelnaiekbfoiaaGreatDoor.va
/- The reference's Parse returns the plain function; its words lie in new memory. Condition: the text is no longer than 2147483647 bytes. -/
namespace Go.Proofs.YtbelnaiekbfoiaaGreatDoor.va
open Go.ChangeShapes Go.WideShapes Go.ChangeAt Go.RowKit gl

theorem FreshR.shape {w w' : World} {sl : Value} {xs : List ByteArray} (h : FreshR w w' sl xs) : ∃ p n c, sl = .slice p n c := by
  rcases h with ⟨_, rfl⟩ | ⟨g, c, cs, rfl, _⟩
  · exact ⟨_, _, _, rfl⟩
  · exact ⟨_, _, _, rfl⟩
theorem FreshR.up {w w1 W : World} {o : Obj} {sl : Value} {xs : List ByteArray} (h : FreshR (w.alloc o) w1 sl xs) (_hs : W.heap.size = w1.heap.size) (hW : ∀ k : Nat, k ≠ w.heap.size → W.heap[k]? = w1.heap[k]?) : FreshR w W sl xs := by
  rcases h with h | ⟨g, c, cs, rfl, hc, h1, h2, hat⟩
  · exact .inl h
  · simp only [World.size_alloc] at h1
    exact .inr ⟨g, c, cs, rfl, hc, by omega, (hW g (by omega)).trans h2, hat⟩

set_option maxHeartbeats 1000000 in
set_option maxRecDepth 100000 in
theorem refParse_2 (s : ByteArray) (hs : s.size ≤ 2147483647) (w : World) :
    Calls Tryz.prog 93 #[.int .i64 2, .string s] w fun e w' => RefOut (parseInt s.data.toList) w e w' ∧ Below w.heap.size w w' := by
  obtain ⟨⟨⟨kk, nn, tt, ww⟩, ee⟩, hr⟩ : ∃ r, parseInt s.data.toList = r := ⟨_, rfl⟩
  have hcon : Calls Tryz.prog 140 #[.string s] (w.alloc (.cells #[.int .i64 0, .int .i64 0, .string ⟨#[]⟩, .slice none 0 0] 45)) fun e w' => (∃ p n c, e = .returned (.tuple #[.agg #[.int .i64 kk, .int .i64 nn, .string tt, .slice p n c], .int .i64 ee]) ∧ FreshR (w.alloc (.cells #[.int .i64 0, .int .i64 0, .string ⟨#[]⟩, .slice none 0 0] 45)) w' (.slice p n c) ww) ∧ Below (w.alloc (.cells #[.int .i64 0, .int .i64 0, .string ⟨#[]⟩, .slice none 0 0] 45)).heap.size (w.alloc (.cells #[.int .i64 0, .int .i64 0, .string ⟨#[]⟩, .slice none 0 0] 45)) w' := by
    refine (refWhole_any s hs _).mono ?_
    rintro e w' ⟨rfl, hb⟩
    rw [hr]
    refine ⟨⟨_, _, _, rfl, .inl ⟨?_, rfl⟩⟩, hb⟩
    have := parseInt_words s.data.toList
    rw [hr] at this
    exact this
  rw [hr]
  clear hr
  go_enter Tryz.func93, Tryz.ntmps93
  go_wp2_with fail
  refine hcon.mono ?_
  rintro e w1 ⟨⟨p, n, c, rfl, hfr⟩, hb⟩
  have Hb := Lib.hid hb
  have Hfr := Lib.hid hfr
  clear hfr hb
  have Hblk := Lib.hid ((new_block Hb.out).trans (heap_alloc_new w _))
  obtain ⟨⟨c0, c1, c2, c3⟩, f0, f1, f2, f3⟩ := res_cells Hb.out
  go_wp2_with fail
  generalize hW : World.setCell (World.setCell (World.setCell (World.setCell w1 _ _) _ _) _ _) _ _ = W
  obtain ⟨⟨g0, g1, g2, g3⟩, hsW, hoth, hbel⟩ := four_done Hblk.out hW
  have HB := Lib.hid (hbel w.heap.size w ((((Below.refl _ w).alloc (Nat.le_refl _) _)).trans (Hb.out.mono (by simp))) (Nat.le_refl _))
  have HO := Lib.hid hoth
  have HsW := Lib.hid hsW
  clear hW hbel hoth hsW
  (try simp only [Exit.inBlock, Exit.then])
  refine bodyPost_ret (by simp [results, Tryz.results93, go_sem, g0, g1, g2, g3]; try rfl) rfl ?_
  exact ⟨⟨_, rfl, Hfr.out.up HsW.out HO.out⟩, HB.out⟩

set_option maxHeartbeats 1000000 in
set_option maxRecDepth 100000 in
theorem refParse_u (k : Int) (hk : k = 3 ∨ k = 4) (s : ByteArray) (hs : s.size ≤ 2147483647) (w : World) :
    Calls Tryz.prog 93 #[.int .i64 k, .string s] w fun e w' => RefOut (parseUnit k s.data.toList) w e w' ∧ Below w.heap.size w w' := by
  obtain ⟨⟨⟨kk, nn, tt, ww⟩, ee⟩, hr⟩ : ∃ r, parseUnit k s.data.toList = r := ⟨_, rfl⟩
  have hcon : Calls Tryz.prog 141 #[.int .i64 k, .string s] (w.alloc (.cells #[.int .i64 0, .int .i64 0, .string ⟨#[]⟩, .slice none 0 0] 45)) fun e w' => (∃ p n c, e = .returned (.tuple #[.agg #[.int .i64 kk, .int .i64 nn, .string tt, .slice p n c], .int .i64 ee]) ∧ FreshR (w.alloc (.cells #[.int .i64 0, .int .i64 0, .string ⟨#[]⟩, .slice none 0 0] 45)) w' (.slice p n c) ww) ∧ Below (w.alloc (.cells #[.int .i64 0, .int .i64 0, .string ⟨#[]⟩, .slice none 0 0] 45)).heap.size (w.alloc (.cells #[.int .i64 0, .int .i64 0, .string ⟨#[]⟩, .slice none 0 0] 45)) w' := by
    refine (refUnited_any k hk s hs _).mono ?_
    rintro e w' ⟨rfl, hb⟩
    rw [hr]
    refine ⟨⟨_, _, _, rfl, .inl ⟨?_, rfl⟩⟩, hb⟩
    have := parseUnit_words k s.data.toList
    rw [hr] at this
    exact this
  rw [hr]
  clear hr
  rcases hk with rfl | rfl
  all_goals
    go_enter Tryz.func93, Tryz.ntmps93
    go_wp2_with fail
    refine hcon.mono ?_
    rintro e w1 ⟨⟨p, n, c, rfl, hfr⟩, hb⟩
    have Hb := Lib.hid hb
    have Hfr := Lib.hid hfr
    clear hfr hb
    have Hblk := Lib.hid ((new_block Hb.out).trans (heap_alloc_new w _))
    obtain ⟨⟨c0, c1, c2, c3⟩, f0, f1, f2, f3⟩ := res_cells Hb.out
    go_wp2_with fail
    generalize hW : World.setCell (World.setCell (World.setCell (World.setCell w1 _ _) _ _) _ _) _ _ = W
    obtain ⟨⟨g0, g1, g2, g3⟩, hsW, hoth, hbel⟩ := four_done Hblk.out hW
    have HB := Lib.hid (hbel w.heap.size w ((((Below.refl _ w).alloc (Nat.le_refl _) _)).trans (Hb.out.mono (by simp))) (Nat.le_refl _))
    have HO := Lib.hid hoth
    have HsW := Lib.hid hsW
    clear hW hbel hoth hsW
    (try simp only [Exit.inBlock, Exit.then])
    refine bodyPost_ret (by simp [results, Tryz.results93, go_sem, g0, g1, g2, g3]; try rfl) rfl ?_
    exact ⟨⟨_, rfl, Hfr.out.up HsW.out HO.out⟩, HB.out⟩

set_option maxHeartbeats 1000000 in
set_option maxRecDepth 100000 in
theorem refParse_5 (s : ByteArray) (hs : s.size ≤ 2147483647) (w : World) :
    Calls Tryz.prog 93 #[.int .i64 5, .string s] w fun e w' => RefOut (parseText s.data.toList) w e w' ∧ Below w.heap.size w w' := by
  obtain ⟨⟨⟨kk, nn, tt, ww⟩, ee⟩, hr⟩ : ∃ r, parseText s.data.toList = r := ⟨_, rfl⟩
  have hcon : Calls Tryz.prog 142 #[.string s] (w.alloc (.cells #[.int .i64 0, .int .i64 0, .string ⟨#[]⟩, .slice none 0 0] 45)) fun e w' => (∃ p n c, e = .returned (.tuple #[.agg #[.int .i64 kk, .int .i64 nn, .string tt, .slice p n c], .int .i64 ee]) ∧ FreshR (w.alloc (.cells #[.int .i64 0, .int .i64 0, .string ⟨#[]⟩, .slice none 0 0] 45)) w' (.slice p n c) ww) ∧ Below (w.alloc (.cells #[.int .i64 0, .int .i64 0, .string ⟨#[]⟩, .slice none 0 0] 45)).heap.size (w.alloc (.cells #[.int .i64 0, .int .i64 0, .string ⟨#[]⟩, .slice none 0 0] 45)) w' := by
    refine (refText_any s hs _).mono ?_
    rintro e w' ⟨rfl, hb⟩
    rw [hr]
    refine ⟨⟨_, _, _, rfl, .inl ⟨?_, rfl⟩⟩, hb⟩
    have := parseText_words s.data.toList
    rw [hr] at this
    exact this
  rw [hr]
  clear hr
  go_enter Tryz.func93, Tryz.ntmps93
  go_wp2_with fail
  refine hcon.mono ?_
  rintro e w1 ⟨⟨p, n, c, rfl, hfr⟩, hb⟩
  have Hb := Lib.hid hb
  have Hfr := Lib.hid hfr
  clear hfr hb
  have Hblk := Lib.hid ((new_block Hb.out).trans (heap_alloc_new w _))
  obtain ⟨⟨c0, c1, c2, c3⟩, f0, f1, f2, f3⟩ := res_cells Hb.out
  go_wp2_with fail
  generalize hW : World.setCell (World.setCell (World.setCell (World.setCell w1 _ _) _ _) _ _) _ _ = W
  obtain ⟨⟨g0, g1, g2, g3⟩, hsW, hoth, hbel⟩ := four_done Hblk.out hW
  have HB := Lib.hid (hbel w.heap.size w ((((Below.refl _ w).alloc (Nat.le_refl _) _)).trans (Hb.out.mono (by simp))) (Nat.le_refl _))
  have HO := Lib.hid hoth
  have HsW := Lib.hid hsW
  clear hW hbel hoth hsW
  (try simp only [Exit.inBlock, Exit.then])
  refine bodyPost_ret (by simp [results, Tryz.results93, go_sem, g0, g1, g2, g3]; try rfl) rfl ?_
  exact ⟨⟨_, rfl, Hfr.out.up HsW.out HO.out⟩, HB.out⟩

set_option maxHeartbeats 1000000 in
set_option maxRecDepth 100000 in
theorem refParse_6 (s : ByteArray) (hs : s.size ≤ 2147483647) (w : World) :
    Calls Tryz.prog 93 #[.int .i64 6, .string s] w fun e w' => RefOut (parseWords wordL s.data.toList) w e w' ∧ Below w.heap.size w w' := by
  obtain ⟨⟨⟨kk, nn, tt, ww⟩, ee⟩, hr⟩ : ∃ r, parseWords wordL s.data.toList = r := ⟨_, rfl⟩
  have hcon : Calls Tryz.prog 143 #[.string s] (w.alloc (.cells #[.int .i64 0, .int .i64 0, .string ⟨#[]⟩, .slice none 0 0] 45)) fun e w' => (∃ p n c, e = .returned (.tuple #[.agg #[.int .i64 kk, .int .i64 nn, .string tt, .slice p n c], .int .i64 ee]) ∧ FreshR (w.alloc (.cells #[.int .i64 0, .int .i64 0, .string ⟨#[]⟩, .slice none 0 0] 45)) w' (.slice p n c) ww) ∧ Below (w.alloc (.cells #[.int .i64 0, .int .i64 0, .string ⟨#[]⟩, .slice none 0 0] 45)).heap.size (w.alloc (.cells #[.int .i64 0, .int .i64 0, .string ⟨#[]⟩, .slice none 0 0] 45)) w' := by
    refine (refWords_any s hs _).mono ?_
    rintro e w' ⟨⟨sl, rfl, hf⟩, hb⟩
    rw [hr] at hf ⊢
    obtain ⟨p, n, c, rfl⟩ := hf.shape
    exact ⟨⟨p, n, c, rfl, hf⟩, hb⟩
  rw [hr]
  clear hr
  go_enter Tryz.func93, Tryz.ntmps93
  go_wp2_with fail
  refine hcon.mono ?_
  rintro e w1 ⟨⟨p, n, c, rfl, hfr⟩, hb⟩
  have Hb := Lib.hid hb
  have Hfr := Lib.hid hfr
  clear hfr hb
  have Hblk := Lib.hid ((new_block Hb.out).trans (heap_alloc_new w _))
  obtain ⟨⟨c0, c1, c2, c3⟩, f0, f1, f2, f3⟩ := res_cells Hb.out
  go_wp2_with fail
  generalize hW : World.setCell (World.setCell (World.setCell (World.setCell w1 _ _) _ _) _ _) _ _ = W
  obtain ⟨⟨g0, g1, g2, g3⟩, hsW, hoth, hbel⟩ := four_done Hblk.out hW
  have HB := Lib.hid (hbel w.heap.size w ((((Below.refl _ w).alloc (Nat.le_refl _) _)).trans (Hb.out.mono (by simp))) (Nat.le_refl _))
  have HO := Lib.hid hoth
  have HsW := Lib.hid hsW
  clear hW hbel hoth hsW
  (try simp only [Exit.inBlock, Exit.then])
  refine bodyPost_ret (by simp [results, Tryz.results93, go_sem, g0, g1, g2, g3]; try rfl) rfl ?_
  exact ⟨⟨_, rfl, Hfr.out.up HsW.out HO.out⟩, HB.out⟩

set_option maxHeartbeats 1000000 in
theorem refParse_1 (s : ByteArray) (w : World) :
    Calls Tryz.prog 93 #[.int .i64 1, .string s] w fun e w' => RefOut (parseBool s.data.toList) w e w' ∧ Below w.heap.size w w' := by
  suffices h : Calls Tryz.prog 93 #[.int .i64 1, .string s] w fun e w' => e = .returned (res (parseBool s.data.toList) (.slice none 0 0)) ∧ Below w.heap.size w w' by
    refine h.mono ?_
    rintro e w' ⟨rfl, hb⟩
    exact ⟨⟨_, rfl, .inl ⟨parseBool_words _, rfl⟩⟩, hb⟩
  rw [← ByteArray.toList_eq s]
  cases h1 : (s.toList == [116, 114, 117, 101]) with
  | true =>
    have H := Lib.hid (pb_yes (.inl h1))
    go_enter Tryz.func93, Tryz.ntmps93
    go_wp2
    go_returns
    exact ⟨by rw [H.out]; rfl, by go_grown⟩
  | false =>
    cases h2 : (s.toList == [121, 101, 115]) with
    | true =>
      have H := Lib.hid (pb_yes (.inr (.inl h2)))
      go_enter Tryz.func93, Tryz.ntmps93
      go_wp2
      go_returns
      exact ⟨by rw [H.out]; rfl, by go_grown⟩
    | false =>
      cases h3 : (s.toList == [111, 110]) with
      | true =>
        have H := Lib.hid (pb_yes (.inr (.inr h3)))
        go_enter Tryz.func93, Tryz.ntmps93
        go_wp2
        go_returns
        exact ⟨by rw [H.out]; rfl, by go_grown⟩
      | false =>
        cases h4 : (s.toList == [102, 97, 108, 115, 101]) with
        | true =>
          have H := Lib.hid (pb_no (.inl h4))
          go_enter Tryz.func93, Tryz.ntmps93
          go_wp2
          go_returns
          exact ⟨by rw [H.out]; rfl, by go_grown⟩
        | false =>
          cases h5 : (s.toList == [110, 111]) with
          | true =>
            have H := Lib.hid (pb_no (.inr (.inl h5)))
            go_enter Tryz.func93, Tryz.ntmps93
            go_wp2
            go_returns
            exact ⟨by rw [H.out]; rfl, by go_grown⟩
          | false =>
            cases h6 : (s.toList == [111, 102, 102]) with
            | true =>
              have H := Lib.hid (pb_no (.inr (.inr h6)))
              go_enter Tryz.func93, Tryz.ntmps93
              go_wp2
              go_returns
              exact ⟨by rw [H.out]; rfl, by go_grown⟩
            | false =>
              have H := Lib.hid (pb_none h1 h2 h3 h4 h5 h6)
              go_enter Tryz.func93, Tryz.ntmps93
              go_wp2
              go_returns
              exact ⟨by rw [H.out]; rfl, by go_grown⟩

theorem refParse_any (k : Int) (s : ByteArray) (hs : s.size ≤ 2147483647) (w : World) :
    Calls Tryz.prog 93 #[.int .i64 k, .string s] w fun e w' => RefOut (parse wordL k s.data.toList) w e w' ∧ Below w.heap.size w w' := by
  by_cases h1 : k = 1
  · subst h1; exact refParse_1 s w
  by_cases h2 : k = 2
  · subst h2; exact refParse_2 s hs w
  by_cases hu : k = 3 ∨ k = 4
  · have : parse wordL k s.data.toList = parseUnit k s.data.toList := by unfold parse; rw [if_neg h1, if_neg h2, if_pos hu]
    rw [this]
    exact refParse_u k hu s hs w
  by_cases h5 : k = 5
  · subst h5; exact refParse_5 s hs w
  by_cases h6 : k = 6
  · subst h6; exact refParse_6 s hs w
  have He : Hid (parse wordL k s.data.toList = (zero, 1)) := Lib.hid (by unfold parse; rw [if_neg h1, if_neg h2, if_neg hu, if_neg h5, if_neg h6])
  have q1 : (k == 1) = false := by simp [h1]
  have q2 : (k == 2) = false := by simp [h2]
  have q3 : (k == 3) = false := by simp; omega
  have q4 : (k == 4) = false := by simp; omega
  have q5 : (k == 5) = false := by simp [h5]
  have q6 : (k == 6) = false := by simp [h6]
  clear h1 h2 hu h5 h6
  go_enter Tryz.func93, Tryz.ntmps93
  go_wp2_with fail
  go_returns
  exact ⟨⟨_, by rw [He.out]; rfl, .inl ⟨by rw [He.out]; rfl, rfl⟩⟩, by go_grown⟩
end Go.Proofs.YtbelnaiekbfoiaaGreatDoor.va
/- The document's settings: Merge of no given. Conditions: the document's set lies in memory as its list, that ascends. -/
namespace Go.Proofs.YtbelnaiekbfoiaaGreatDoor.dr
open Go.ChangeShapes Go.WideShapes Go.ChangeAt Go.RowKit gl va ls ky ly
/-- Words in a row of their own, that may be shorter than its bound. -/
def FW (M : Nat) (w : World) (sl : Value) (xs : List ByteArray) : Prop :=
  (xs = [] ∧ sl = .slice none 0 0) ∨ ∃ g c cs, sl = .slice (some ⟨g, 0, none⟩) xs.length c ∧ xs.length ≤ c ∧ M ≤ g ∧ w.heap[g]? = some (.cells cs 9 (0, 0)) ∧ ∀ (j : Nat) x, xs[j]? = some x → cs[j]? = some (.string x)
theorem fresh_fw {w w' : World} {sl : Value} {xs : List ByteArray} (h : FreshR w w' sl xs) : FW w.heap.size w' sl xs := by
  rcases h with h | ⟨g, c, cs, h1, h2, h3, h4⟩
  · exact .inl h
  · exact .inr ⟨g, c, cs, h1, h2, Nat.le_of_lt h3, h4⟩
theorem FW.strs {M : Nat} {w : World} {sl : Value} {xs : List ByteArray} (h : FW M w sl xs) : Strs w sl xs := by
  rcases h with ⟨rfl, rfl⟩ | ⟨g, c, cs, rfl, hc, _, hg, hat⟩
  · exact ⟨none, 0, rfl, Nat.le_refl _, .inl rfl⟩
  · exact ⟨_, c, rfl, hc, .inr ⟨g, 0, rfl, lt_of_block hg, fun j x hj => by rw [Nat.zero_add, cell_of_row _ _ _ _ _ _ hg]; exact hat j x hj⟩⟩
theorem FW.mono {M M' : Nat} {w : World} {sl : Value} {xs : List ByteArray} (h : FW M w sl xs) (hM : M' ≤ M) : FW M' w sl xs := by
  rcases h with h | ⟨g, c, cs, h1, h2, h3, h4⟩
  · exact .inl h
  · exact .inr ⟨g, c, cs, h1, h2, Nat.le_trans hM h3, h4⟩
theorem FW.keep {M : Nat} {w w' : World} {sl : Value} {xs : List ByteArray} (h : FW M w sl xs) (hk : SK 9 w w') : FW M w' sl xs := by
  rcases h with h | ⟨g, c, cs, h1, h2, h3, h4, h5⟩
  · exact .inl h
  · exact .inr ⟨g, c, cs, h1, h2, h3, hk g cs h4, h5⟩
theorem FW.later {M : Nat} {w w' : World} {sl : Value} {xs : List ByteArray} (h : FW M w sl xs) (hb : Below w.heap.size w w') : FW M w' sl xs := h.keep (SK.of_below hb)
theorem FW.form {M : Nat} {w : World} {sl : Value} {xs : List ByteArray} (h : FW M w sl xs) : ∃ p c, sl = .slice p xs.length c := by
  rcases h with ⟨rfl, rfl⟩ | ⟨g, c, cs, rfl, _⟩
  · exact ⟨none, 0, rfl⟩
  · exact ⟨_, c, rfl⟩
/-- The document's settings under way. -/
def RPart (M : Nat) (w : World) (b : Nat) (ks : Value) (S : List Sg) : Prop :=
  ∃ p n c, n = S.length ∧ M ≤ b ∧ w.heap[b]? = some (.cells #[ks, .slice p n c] 110 (0, 0)) ∧ w.ownsRow M 47 6 (.slice p n c) n (rw.flat sgC S) ∧ ∀ s ∈ S, FW M w s.h.sl s.h.v.words
theorem RPart.later {M : Nat} {w w' : World} {b : Nat} {ks : Value} {S : List Sg} (h : RPart M w b ks S) (hb : Below w.heap.size w w') : RPart M w' b ks S := by
  obtain ⟨p, n, c, h0, h1, h2, h4, h5⟩ := h
  exact ⟨p, n, c, h0, h1, (hb.block b (lt_of_block h2)).trans h2, ls.own_kept h4 hb, fun s hs => (h5 s hs).later hb⟩
theorem rpart_grown {M : Nat} {w0 w w5 : World} {b n g' cap' c : Nat} {ks : Value} {p : Option Addr} {S : List Sg} {x : Sg} (hn : n = S.length) (hb : M ≤ b) (hM : M ≤ w.heap.size) (h2 : w.heap[b]? = some (.cells #[ks, .slice p n c] 110 (0, 0))) (h3 : w.ownsRow M 47 6 (.slice p n c) n (rw.flat sgC S)) (hW : ∀ s ∈ S, FW M w s.h.sl s.h.v.words) (hx : FW M w x.h.sl x.h.v.words) (hB : Below M w0 w)
    (ho : w5.ownsRow M 47 6 (.slice (some ⟨g', 0, none⟩) (n + 1) cap') (n + 1) (rw.flat sgC S ++ sgC x)) (hg : w.grownBy w5 (Value.slice p n c).ownBlock) :
    RPart M (w5.setCell ⟨b, 1, none⟩ (.slice (some ⟨g', 0, none⟩) (n + 1) cap')) b ks (S ++ [x]) ∧ Below M w0 (w5.setCell ⟨b, 1, none⟩ (.slice (some ⟨g', 0, none⟩) (n + 1) cap')) := by
  have k2 := (hg.block b (lt_of_block h2) (own_ne9 h3 h2 (by decide))).trans h2
  have s1 : SK 9 w w5 := SK.own (by decide) h3 hg
  have hU : Upd [b] w5 (w5.setCell ⟨b, 1, none⟩ (.slice (some ⟨g', 0, none⟩) (n + 1) cap')) := (Upd.refl _ _).setCell (p := ⟨b, 1, none⟩) (.inl (by simp)) _
  have hS : ∀ q ∈ [b], ∃ cs, w5.heap[q]? = some (.cells cs 110 (0, 0)) := fun q hq => by rw [List.mem_singleton] at hq; subst hq; exact ⟨_, k2⟩
  have u1 : SK 9 w5 (w5.setCell ⟨b, 1, none⟩ (.slice (some ⟨g', 0, none⟩) (n + 1) cap')) := sk_upd hU hS (by decide)
  refine ⟨⟨_, n + 1, _, by simp [hn], hb, heap_set k2 _, ?_, fun s hs => ?_⟩, (below_grown_own hB h3 hg hM).setCell (p := ⟨b, 1, none⟩) hb _⟩
  · rw [rw.flat_snoc]
    exact own_set9 ho k2 (by decide)
  · rcases List.mem_append.1 hs with h | h
    · exact (FW.keep (hW s h) s1).keep u1
    · rw [List.mem_singleton] at h
      subst h
      exact (FW.keep hx s1).keep u1
/-- The document's Parse, its answer written out. -/
theorem egPar (args : Array Value) (w : World) : (callFunc 93 args).run Tryz.prog w = .ok (.enter 93 args) w := enters Tryz.func93 (by kernel_rfl) (by kernel_rfl) args w
theorem refParseE (k : Int) (s : ByteArray) (hs : s.size ≤ 2147483647) (vk vn : Int) (vt : ByteArray) (vw : List ByteArray) (pe : Int) (hp : parse wordL k s.data.toList = (⟨vk, vn, vt, vw⟩, pe)) (W : World) :
    Calls Tryz.prog 93 #[.int .i64 k, .string s] W fun e w' => ∃ v, e = .returned v ∧ ((∃ pw cw, v = .tuple #[.agg #[.int .i64 vk, .int .i64 vn, .string vt, .slice pw vw.length cw], .int .i64 pe] ∧ FW W.heap.size w' (.slice pw vw.length cw) vw) ∧ Below W.heap.size W w') := by
  refine (refParse_any k s hs W).mono ?_
  rintro e w' ⟨⟨sl, rfl, hf⟩, hb⟩
  rw [hp] at hf ⊢
  have hF := fresh_fw hf
  obtain ⟨pw, cw, rfl⟩ := hF.form
  exact ⟨_, rfl, ⟨pw, cw, rfl, hF⟩, hb⟩
/-- A definition's setting, as it stands at first. -/
noncomputable def dfltS (k : Ky) : List UInt8 × Vs := (k.name, dfltV k)
def Sg.ns (s : Sg) : List UInt8 × Vs := (s.name, s.h.vs)
set_option maxHeartbeats 4000000 in
set_option maxRecDepth 100000 in
theorem refMerge0_any (s : Nat) (D : List Ky) (hlen : D.length ≤ 100000) (hl0 : 1 ≤ D.length) (ha : AscK D) (hok : ∀ k ∈ D, KyOk k) (w : World) (hS : RefK w s D) :
    Calls Tryz.prog 40 #[.pointer (some ⟨s, 0, none⟩), .slice none 0 0, .slice none 0 0] w fun e w' => (∃ M b pk ck S, e = .returned (.tuple #[.pointer (some ⟨b, 0, none⟩), .int .i64 0, .int .i64 0, .int .i64 0]) ∧ w.heap.size ≤ M ∧ Kys w' (.slice pk D.length ck) D ∧ RPart M w' b (.slice pk D.length ck) S ∧ S.map Sg.ns = D.map dfltS) ∧ Below w.heap.size w w' := by
  obtain ⟨i1, si, sz0, sz1, sz2⟩ := info_parts infoSg
  have HA := Lib.hid (refAll_any s D w hS hlen hl0 ha)
  clear hS
  have Hok := Lib.hid hok
  obtain ⟨n, hDn⟩ : ∃ n, n = D.length := ⟨_, rfl⟩
  rw [← hDn] at HA hlen hl0
  have HDn := Lib.hid hDn
  clear hDn hok ha
  go_enter Tryz.func40, Tryz.ntmps40
  go_wp2_with fail
  refine wp_loop_rounds 1 ?_
  rw [rounds_succ]
  go_wp2_with fail
  refine HA.out.mono ?_
  rintro e w2 ⟨⟨p, c, rfl, hn2⟩, hb2⟩
  have HKn : Hid (Kys w2 (.slice p n c) D) := Lib.hid hn2
  have Hp2 : Hid (0 < n → ∃ g o, p = some ⟨g, o, none⟩ ∧ g < w2.heap.size) := Lib.hid hn2.ptr.2.2
  have Hb2 := Lib.hid hb2
  clear hn2 hb2 HA
  go_upto_region 9 with fail
  refine go_nm (fun wA hA => ?_)
  have kA : wA.heap[w2.heap.size]? = some (.cells #[.slice p n c, .slice none 0 0] 110 (0, 0)) := by rw [hA]; exact heap_alloc_new w2 _
  have hbA : Below w2.heap.size w2 wA := by rw [hA]; exact (Below.refl _ _).alloc (Nat.le_refl _) _
  have hlA := lt_of_block kA
  have HLP : Hid (RPart w2.heap.size wA w2.heap.size (.slice p n c) []) := Lib.hid ⟨none, 0, 0, rfl, Nat.le_refl _, kA, World.ownsRow_nil _ _ _ _, fun x hx => by simp at hx⟩
  have HbA := Lib.hid hbA
  have HK := Lib.hid fun (W : World) (hW : Below w2.heap.size w2 W) => (HKn.out.later hW : Kys W (.slice p n c) D)
  have a0 : wA.cell? ⟨w2.heap.size, 0, none⟩ = some (.slice p n c) := cell_in kA
  obtain ⟨b, hbe⟩ : ∃ b, b = w2.heap.size := ⟨_, rfl⟩
  rw [← hbe] at a0 hlA ⊢
  have Hbe := Lib.hid hbe
  have HLP2 : Hid (RPart w2.heap.size wA b (.slice p n c) []) := by rw [hbe]; exact HLP
  clear hA kA hbA hbe HLP
  go_wp2_with fail
  go_loopw [12] (fun vi wr => ∃ (j : Nat) (S : List Sg), j ≤ n ∧ vi = .int .i64 j ∧ Hid (S.map Sg.ns = (D.take j).map dfltS) ∧ Hid (RPart w2.heap.size wr b (.slice p n c) S) ∧ Hid (Below w2.heap.size w2 wr)) (fun vi _ => n - (intOf vi).toNat)
  case atStart => exact ⟨0, [], by omega, rfl, Lib.hid rfl, HLP2, HbA⟩
  case round =>
    clear HLP2 HbA a0 hlA
    obtain ⟨wo, rfl⟩ : ∃ wo, wo = wr := ⟨_, rfl⟩
    obtain ⟨j, S, hj, rfl, HR, HP, Hb⟩ := hrel
    have hzo : w2.heap.size ≤ wo.heap.size := Hb.out.size
    have HRl : Hid (S.length = j) := Lib.hid (by
      have := congrArg List.length HR.out
      rw [List.length_map, List.length_map, List.length_take] at this
      have := HDn.out
      omega)
    obtain ⟨pL, nL, cL, hnL, hMb2, kL, ownL, hwds⟩ := HP.out
    have b0 : wo.cell? ⟨b, 0, none⟩ = some (.slice p n c) := cell_in kL
    have bl := lt_of_block kL
    clear ownL hwds hnL
    by_cases hlt : j < n
    · have q1 : decide ((j : Int) < (n : Int)) = true := by rw [decide_eq_true_iff]; omega
      have q2 : decide (j < n) = true := by rw [decide_eq_true_iff]; omega
      have hji : (j : Int) < (n : Int) := by omega
      have hj0 : (0 : Int) ≤ (j : Int) := by omega
      obtain ⟨k, hk⟩ : ∃ k, D[j]? = some k := ⟨_, List.getElem?_eq_getElem (by rw [← HDn.out]; exact hlt)⟩
      have hKr : Kys wo (.slice p n c) D := HK.out wo Hb.out
      obtain ⟨gk, ok, rfl, hgw⟩ := Hp2.out (by omega)
      obtain ⟨k0, k1, k2, k3, k4, k5⟩ := ky_cells hKr hk
      have hko := Hok.out k (List.mem_of_getElem? hk)
      obtain ⟨⟨⟨vk, vn, vt, vw⟩, pe⟩, hpr⟩ : ∃ pr, parse wordL k.kind k.dflt = pr := ⟨_, rfl⟩
      have HPz := Lib.hid fun (W : World) => refParseE k.kind (B k.dflt) (by rw [show (B k.dflt).size = k.dflt.length from by simp [ByteArray.size]]; exact hko.2.1) vk vn vt vw pe (by rw [show (B k.dflt).data.toList = k.dflt from by simp]; exact hpr) W
      have HVs : Hid ((dfltV k).v = ⟨vk, vn, vt, vw⟩) := Lib.hid (by unfold dfltV; rw [hpr])
      have Hk := Lib.hid hk
      have HKc := Lib.hid fun (W : World) (hW : Below w2.heap.size w2 W) => (ky_cells (HK.out W hW) hk).1
      have hgk : gk < wo.heap.size := by omega
      clear hKr hk hko hpr
      go_upto_region 12 with fail
      have HS := Lib.hid fun (W : World) (hW : Below wo.heap.size wo W) => (⟨(hW.cell (p := ⟨b, 0, none⟩) bl).trans b0, (hW.cell (p := ⟨gk, ok + j * 6 + 1, none⟩) hgk).trans k1, (hW.cell (p := ⟨gk, ok + j * 6 + 2, none⟩) hgk).trans k2⟩ : W.cell? ⟨b, 0, none⟩ = some (.slice (some ⟨gk, ok, none⟩) n c) ∧ W.cell? ⟨gk, ok + j * 6 + 1, none⟩ = some (.int .i64 k.kind) ∧ W.cell? ⟨gk, ok + j * 6 + 2, none⟩ = some (.string (B k.dflt)))
      refine wp_region_held_drew (S := (fun W => W.cell? ⟨b, 0, none⟩ = some (.slice (some ⟨gk, ok, none⟩) n c) ∧ W.cell? ⟨gk, ok + j * 6 + 1, none⟩ = some (.int .i64 k.kind) ∧ W.cell? ⟨gk, ok + j * 6 + 2, none⟩ = some (.string (B k.dflt)))) (by kernel_rfl) (HS.out _ (Below.refl _ _).drew) (fun hH0 => ?_)
      try dsimp only at hH0
      refine hk_take (i := 0) (d := some 78) (v := ?_) (by kernel_rfl) (by kernel_rfl) (by kernel_rfl) (by kernel_rfl) (fun _ _ _ h => h) (by kernel_rfl) ?hy (by assumption) ?_
      case hy => (intro w hSw; (try dsimp only at hSw); simp only [List.getElem?_toArray, List.getElem?_cons_zero]; go_simp; all_goals (with_reducible rfl))
      try simp only [Act.put, List.setIfInBounds_toArray, List.set_cons_zero, List.set_cons_succ]
      refine hk_take (i := 1) (d := some 79) (v := ?_) (by kernel_rfl) (by kernel_rfl) (by kernel_rfl) (by kernel_rfl) (fun _ _ _ h => h) (by kernel_rfl) ?hy (by assumption) ?_
      case hy => (intro w hSw; (try dsimp only at hSw); simp only [List.getElem?_toArray, List.getElem?_cons_succ, List.getElem?_cons_zero]; go_simp; all_goals (with_reducible rfl))
      try simp only [Act.put, List.setIfInBounds_toArray, List.set_cons_zero, List.set_cons_succ]
      refine hk_take (i := 2) (d := some 80) (v := ?_) (by kernel_rfl) (by kernel_rfl) (by kernel_rfl) (by kernel_rfl) (fun _ _ _ h => h) (by kernel_rfl) ?hy (by assumption) ?_
      case hy => (intro w hSw; (try dsimp only at hSw); simp only [List.getElem?_toArray, List.getElem?_cons_succ, List.getElem?_cons_zero]; go_simp; all_goals (with_reducible rfl))
      try simp only [Act.put, List.setIfInBounds_toArray, List.set_cons_zero, List.set_cons_succ]
      refine hk_take (i := 3) (d := some 81) (v := ?_) (by kernel_rfl) (by kernel_rfl) (by kernel_rfl) (by kernel_rfl) (fun _ _ _ h => h) (by kernel_rfl) ?hy (by assumption) ?_
      case hy => (intro w hSw; (try dsimp only at hSw); simp only [List.getElem?_toArray, List.getElem?_cons_succ, List.getElem?_cons_zero]; go_simp; all_goals (with_reducible rfl))
      try simp only [Act.put, List.setIfInBounds_toArray, List.set_cons_zero, List.set_cons_succ]
      refine hk_take (i := 4) (d := some 82) (v := ?_) (by kernel_rfl) (by kernel_rfl) (by kernel_rfl) (by kernel_rfl) (fun _ _ _ h => h) (by kernel_rfl) ?hy (by assumption) ?_
      case hy => (intro w hSw; (try dsimp only at hSw); simp only [List.getElem?_toArray, List.getElem?_cons_succ, List.getElem?_cons_zero]; go_simp; all_goals (with_reducible rfl))
      try simp only [Act.put, List.setIfInBounds_toArray, List.set_cons_zero, List.set_cons_succ]
      refine hk_take (i := 5) (d := some 83) (v := ?_) (by kernel_rfl) (by kernel_rfl) (by kernel_rfl) (by kernel_rfl) (fun _ _ _ h => h) (by kernel_rfl) ?hy (by assumption) ?_
      case hy => (intro w hSw; (try dsimp only at hSw); simp only [List.getElem?_toArray, List.getElem?_cons_succ, List.getElem?_cons_zero]; go_simp; all_goals (with_reducible rfl))
      try simp only [Act.put, List.setIfInBounds_toArray, List.set_cons_zero, List.set_cons_succ]
      refine hk_take (i := 6) (d := some 84) (v := ?_) (by kernel_rfl) (by kernel_rfl) (by kernel_rfl) (by kernel_rfl) (fun _ _ _ h => h) (by kernel_rfl) ?hy (by assumption) ?_
      case hy => (intro w hSw; (try dsimp only at hSw); simp only [List.getElem?_toArray, List.getElem?_cons_succ, List.getElem?_cons_zero]; go_simp; all_goals (with_reducible rfl))
      try simp only [Act.put, List.setIfInBounds_toArray, List.set_cons_zero, List.set_cons_succ]
      refine hk_take (i := 7) (d := some 85) (v := ?_) (by kernel_rfl) (by kernel_rfl) (by kernel_rfl) (by kernel_rfl) (fun _ _ _ h => h) (by kernel_rfl) ?hy (by assumption) ?_
      case hy => (intro w hSw; (try dsimp only at hSw); simp only [List.getElem?_toArray, List.getElem?_cons_succ, List.getElem?_cons_zero]; go_simp; all_goals (with_reducible rfl))
      try simp only [Act.put, List.setIfInBounds_toArray, List.set_cons_zero, List.set_cons_succ]
      refine hk_take (i := 8) (d := some 86) (v := ?_) (by kernel_rfl) (by kernel_rfl) (by kernel_rfl) (by kernel_rfl) (fun _ _ _ h => h) (by kernel_rfl) ?hy (by assumption) ?_
      case hy => (intro w hSw; (try dsimp only at hSw); simp only [List.getElem?_toArray, List.getElem?_cons_succ, List.getElem?_cons_zero]; go_simp; all_goals (with_reducible rfl))
      try simp only [Act.put, List.setIfInBounds_toArray, List.set_cons_zero, List.set_cons_succ]
      refine hk_take (i := 9) (d := some 87) (v := ?_) (by kernel_rfl) (by kernel_rfl) (by kernel_rfl) (by kernel_rfl) (fun _ _ _ h => h) (by kernel_rfl) ?hy (by assumption) ?_
      case hy => (intro w hSw; (try dsimp only at hSw); simp only [List.getElem?_toArray, List.getElem?_cons_succ, List.getElem?_cons_zero]; go_simp; all_goals (with_reducible rfl))
      try simp only [Act.put, List.setIfInBounds_toArray, List.set_cons_zero, List.set_cons_succ]
      refine hk_take (i := 10) (d := some 88) (v := ?_) (by kernel_rfl) (by kernel_rfl) (by kernel_rfl) (by kernel_rfl) (fun _ _ _ h => h) (by kernel_rfl) ?hy (by assumption) ?_
      case hy => (intro w hSw; (try dsimp only at hSw); simp only [List.getElem?_toArray, List.getElem?_cons_succ, List.getElem?_cons_zero]; go_simp; all_goals (with_reducible rfl))
      try simp only [Act.put, List.setIfInBounds_toArray, List.set_cons_zero, List.set_cons_succ]
      refine hk_take (i := 11) (d := some 89) (v := ?_) (by kernel_rfl) (by kernel_rfl) (by kernel_rfl) (by kernel_rfl) (fun _ _ _ h => h) (by kernel_rfl) ?hy (by assumption) ?_
      case hy => (intro w hSw; (try dsimp only at hSw); simp only [List.getElem?_toArray, List.getElem?_cons_succ, List.getElem?_cons_zero]; go_simp; all_goals (with_reducible rfl))
      try simp only [Act.put, List.setIfInBounds_toArray, List.set_cons_zero, List.set_cons_succ]
      refine hk_take (i := 12) (d := some 90) (v := ?_) (by kernel_rfl) (by kernel_rfl) (by kernel_rfl) (by kernel_rfl) (fun _ _ _ h => h) (by kernel_rfl) ?hy (by assumption) ?_
      case hy => (intro w hSw; (try dsimp only at hSw); simp only [List.getElem?_toArray, List.getElem?_cons_succ, List.getElem?_cons_zero]; go_simp; all_goals (with_reducible rfl))
      try simp only [Act.put, List.setIfInBounds_toArray, List.set_cons_zero, List.set_cons_succ]
      refine hk_take (i := 13) (d := some 91) (v := ?_) (by kernel_rfl) (by kernel_rfl) (by kernel_rfl) (by kernel_rfl) (fun _ _ _ h => h) (by kernel_rfl) ?hy (by assumption) ?_
      case hy => (intro w hSw; (try dsimp only at hSw); simp only [List.getElem?_toArray, List.getElem?_cons_succ, List.getElem?_cons_zero]; go_simp; all_goals (with_reducible rfl))
      try simp only [Act.put, List.setIfInBounds_toArray, List.set_cons_zero, List.set_cons_succ]
      refine hk_take (i := 14) (d := some 92) (v := ?_) (by kernel_rfl) (by kernel_rfl) (by kernel_rfl) (by kernel_rfl) (fun _ _ _ h => h) (by kernel_rfl) ?hy (by assumption) ?_
      case hy => (intro w hSw; (try dsimp only at hSw); simp only [List.getElem?_toArray, List.getElem?_cons_succ, List.getElem?_cons_zero]; go_simp; all_goals (with_reducible rfl))
      try simp only [Act.put, List.setIfInBounds_toArray, List.set_cons_zero, List.set_cons_succ]
      refine hk_take (i := 15) (d := some 93) (v := ?_) (by kernel_rfl) (by kernel_rfl) (by kernel_rfl) (by kernel_rfl) (fun _ _ _ h => h) (by kernel_rfl) ?hy (by assumption) ?_
      case hy => (intro w hSw; (try dsimp only at hSw); simp only [List.getElem?_toArray, List.getElem?_cons_succ, List.getElem?_cons_zero]; go_simp; all_goals (with_reducible rfl))
      try simp only [Act.put, List.setIfInBounds_toArray, List.set_cons_zero, List.set_cons_succ]
      refine hk_two (i := 16) (k := 20) (by kernel_rfl) (by kernel_rfl) (by kernel_rfl) (fun K hK => ?_) (fun K hK => ?_)
      · simp only [List.getElem?_toArray, List.getElem?_cons_succ, List.getElem?_cons_zero]
        go_simp
        (with_reducible refine Calls.mono (HPz.out _) ?_)
        rintro e w4 ⟨v, rfl, ⟨pw, cw, rfl, hF4⟩, hb4⟩
        have hb4 : Below wo.heap.size wo w4 := (Below.refl _ _).drew.trans hb4
        have hF4 : FW wo.heap.size w4 (.slice pw vw.length cw) vw := hF4
        have HF4 := Lib.hid hF4
        have Hb4 := Lib.hid hb4
        clear hF4 hb4
        go_wp2_with fail
        refine hK.out _ _ (HS.out _ Hb4.out) (fun _ => ?_)
        clear hK K
        try simp only [Act.put, List.setIfInBounds_toArray, List.set_cons_zero, List.set_cons_succ]
        refine hk_take (i := 17) (d := some 77) (v := ?_) (by kernel_rfl) (by kernel_rfl) (by kernel_rfl) (by kernel_rfl) (fun _ _ _ h => h) (by kernel_rfl) ?hy (by assumption) ?_
        case hy => (intro w hSw; (try dsimp only at hSw); simp only [List.getElem?_toArray, List.getElem?_cons_succ, List.getElem?_cons_zero]; go_simp; all_goals (with_reducible rfl))
        try simp only [Act.put, List.setIfInBounds_toArray, List.set_cons_zero, List.set_cons_succ]
        refine hk_take (i := 18) (d := some 95) (v := ?_) (by kernel_rfl) (by kernel_rfl) (by kernel_rfl) (by kernel_rfl) (fun _ _ _ h => h) (by kernel_rfl) ?hy (by assumption) ?_
        case hy => (intro w hSw; (try dsimp only at hSw); simp only [List.getElem?_toArray, List.getElem?_cons_succ, List.getElem?_cons_zero]; go_simp; all_goals (with_reducible rfl))
        try simp only [Act.put, List.setIfInBounds_toArray, List.set_cons_zero, List.set_cons_succ]
        refine hk_take (i := 19) (d := some 96) (v := ?_) (by kernel_rfl) (by kernel_rfl) (by kernel_rfl) (by kernel_rfl) (fun _ _ _ h => h) (by kernel_rfl) ?hy (by assumption) ?_
        case hy => (intro w hSw; (try dsimp only at hSw); simp only [List.getElem?_toArray, List.getElem?_cons_succ, List.getElem?_cons_zero]; go_simp; all_goals (with_reducible rfl))
        try simp only [Act.put, List.setIfInBounds_toArray, List.set_cons_zero, List.set_cons_succ]
        refine hk_call (i := 20) (by kernel_rfl) (by kernel_rfl) (fun K hK => ?_)
        simp only [List.getElem?_toArray, List.getElem?_cons_succ, List.getElem?_cons_zero]
        go_simp
        refine hK.out _ _ (HS.out _ (Hb4.out.alloc Hb4.out.size _)) (fun _ => ?_)
        clear hK K
        try simp only [Act.put, List.setIfInBounds_toArray, List.set_cons_zero, List.set_cons_succ]
        refine hk_call (i := 21) (by kernel_rfl) (by kernel_rfl) (fun K hK => ?_)
        simp only [List.getElem?_toArray, List.getElem?_cons_succ, List.getElem?_cons_zero]
        go_simp
        refine hK.out _ _ (HS.out _ ?_) (fun _ => ?_)
        · first | exact Hb4.out.alloc Hb4.out.size _ | fail
        clear hK K
        try simp only [Act.put, List.setIfInBounds_toArray, List.set_cons_zero, List.set_cons_succ]
        refine hk_take (i := 22) (d := some 14) (v := ?_) (by kernel_rfl) (by kernel_rfl) (by kernel_rfl) (by kernel_rfl) (fun _ _ _ h => h) (by kernel_rfl) ?hy (by assumption) ?_
        case hy => (intro w hSw; (try dsimp only at hSw); simp only [List.getElem?_toArray, List.getElem?_cons_succ, List.getElem?_cons_zero]; go_simp; all_goals (with_reducible rfl))
        try simp only [Act.put, List.setIfInBounds_toArray, List.set_cons_zero, List.set_cons_succ]
        refine wpAnyH_done (by kernel_rfl) ?_ _
        go_upto_region 13 with fail
        refine go_nm (fun wC hC => ?_)
        have kC : wC.heap[w4.heap.size]? = some (.cells #[.int .i64 vk, .int .i64 vn, .string vt, .slice pw vw.length cw] 45 (0, 0)) := (by rw [hC]; first | (with_reducible exact heap_alloc_new w4 _) | (with_reducible exact heap_set (o := 3) (heap_set (o := 2) (heap_set (o := 1) (heap_set (o := 0) (heap_alloc_new w4 _) _) _) _) _))
        have hb9 : Below w4.heap.size w4 wC := (by rw [hC]; first | (with_reducible exact (Below.refl _ _).alloc (Nat.le_refl _) _) | (with_reducible exact (((((Below.refl _ _).alloc (Nat.le_refl _) _).setCell (p := ⟨w4.heap.size, 0, none⟩) (Nat.le_refl _) _).setCell (p := ⟨w4.heap.size, 1, none⟩) (Nat.le_refl _) _).setCell (p := ⟨w4.heap.size, 2, none⟩) (Nat.le_refl _) _).setCell (p := ⟨w4.heap.size, 3, none⟩) (Nat.le_refl _) _))
        have hbC : Below wo.heap.size wo wC := Hb4.out.trans (hb9.mono Hb4.out.size)
        have HFC : Hid (FW w2.heap.size wC (.slice pw vw.length cw) vw) := Lib.hid ((HF4.out.later hb9).mono hzo)
        clear hb9
        obtain ⟨q, hq⟩ : ∃ q, q = w4.heap.size := ⟨_, rfl⟩
        rw [← hq] at kC ⊢
        clear hq
        have HPC := HP.out.later hbC
        have HbC := Lib.hid (Hb.out.trans (hbC.mono hzo))
        have c0 : wC.cell? ⟨q, 0, none⟩ = some (.int .i64 vk) := cell_in kC
        have c1 : wC.cell? ⟨q, 1, none⟩ = some (.int .i64 vn) := cell_in kC
        have c2 : wC.cell? ⟨q, 2, none⟩ = some (.string vt) := cell_in kC
        have c3 : wC.cell? ⟨q, 3, none⟩ = some (.slice pw vw.length cw) := cell_in kC
        have cl := lt_of_block kC
        have hzC : w2.heap.size ≤ wC.heap.size := HbC.out.size
        obtain ⟨pL, nL, cL, hnL, hMb3, kL3, ownL, hwds⟩ := HPC
        obtain rfl : nL = j := by rw [hnL, HRl.out]
        have r0 : wC.cell? ⟨b, 0, none⟩ = some (.slice (some ⟨gk, ok, none⟩) n c) := cell_in kL3
        have r1 : wC.cell? ⟨b, 1, none⟩ = some (.slice pL nL cL) := cell_in kL3
        have rl := lt_of_block kL3
        have n0 : wC.cell? ⟨gk, ok + nL * 6, none⟩ = some (.string (B k.name)) := HKc.out wC HbC.out
        have gl : gk < wC.heap.size := by omega
        have HkL := Lib.hid kL3
        have HoL := Lib.hid ownL
        have HGr := Lib.hid fun (w5 : World) (g' cap' : Nat) => fun ho hg => rpart_grown (w0 := w2) (w5 := w5) (g' := g') (cap' := cap') (x := ⟨k.name, ⟨⟨vk, vn, vt, vw⟩, pw, cw, 0⟩⟩) hnL hMb3 hzC kL3 ownL hwds HFC.out HbC.out ho hg
        have Hne := Lib.hid (own_ne9 HoL.out HkL.out (by decide))
        have HR2 : Hid ((S ++ [(⟨k.name, ⟨⟨vk, vn, vt, vw⟩, pw, cw, 0⟩⟩ : Sg)]).map Sg.ns = (D.take (nL + 1)).map dfltS) := Lib.hid (by
          rw [List.map_append, HR.out, List.take_add_one, Hk.out]
          simp only [Option.toList, List.map_append, List.map_cons, List.map_nil]
          congr 2
          show (k.name, Vs.mk _ _) = (k.name, dfltV k)
          rw [← HVs.out]
          rfl)
        clear hC kC hbC kL3 ownL hwds hnL HFC HP Hb4 HF4 k0 k1 k2 k3 k4 k5 kL b0 bl
        obtain ⟨nm, hnm⟩ : ∃ nm, nm = B k.name := ⟨_, rfl⟩
        rw [← hnm] at n0
        have Hnm := Lib.hid hnm
        clear hnm
        go_region_law (first
          | (refine step_append_k (by rfl) _ _ 39 (by rfl) 47 i1 _ 6 80 Tryz.underlying39 si sz0 sz1 sz2 rfl (by omega) _ (by rfl) (by rfl) w2.heap.size _ nL _ (by rfl) HoL.out (by simp [Value.oneCell']) (by omega) (by omega) hzC ?_; intro g8 c8 w8 hown8 hgrow8 _ _ _; have HGo := Lib.hid (HGr.out w8 g8 c8 (by rw [Hnm.out] at hown8; exact hown8) hgrow8); have k3 := (hgrow8.block _ (lt_of_block HkL.out) Hne.out).trans HkL.out; have q3 : w8.cell? ⟨b, 1, none⟩ = some (.slice pL nL cL) := cell_in k3; have q4 : w8.frozen? ⟨b, 1, none⟩ = false := free_in k3; have q5 := lt_of_block k3; clear hown8 hgrow8 k3)
          | (refine step_append_k0 (by rfl) _ _ 39 (by rfl) 47 i1 _ 6 80 Tryz.underlying39 si sz0 sz1 sz2 rfl (by omega) _ (by rfl) (by rfl) w2.heap.size _ nL _ (by rfl) HoL.out (by simp [Value.oneCell']) (by omega) (by omega) hzC ?_; intro g8 c8 w8 hown8 hgrow8 _ _ _; have HGo := Lib.hid (HGr.out w8 g8 c8 (by rw [Hnm.out] at hown8; exact hown8) hgrow8); have k3 := (hgrow8.block _ (lt_of_block HkL.out) Hne.out).trans HkL.out; have q3 : w8.cell? ⟨b, 1, none⟩ = some (.slice pL nL cL) := cell_in k3; have q4 : w8.frozen? ⟨b, 1, none⟩ = false := free_in k3; have q5 := lt_of_block k3; clear hown8 hgrow8 k3)
          | fail)
        all_goals
          go_wp2_with fail
          go_roundw
          case rel => exact ⟨nL + 1, _, by omega, by go_num, HR2, Lib.hid HGo.out.1, Lib.hid HGo.out.2⟩
          case measure => simp [intOf]; omega
      · simp only [List.getElem?_toArray, List.getElem?_cons_succ, List.getElem?_cons_zero]
        go_simp
        refine hK.out _ _ (HS.out _ ((Below.refl _ _).alloc (Nat.le_refl _) _).drew) (fun _ => ?_)
        clear hK K
        try simp only [Act.put, List.setIfInBounds_toArray, List.set_cons_zero, List.set_cons_succ]
        refine hk_call (i := 16) (by kernel_rfl) (by kernel_rfl) (fun K hK => ?_)
        simp only [List.getElem?_toArray, List.getElem?_cons_succ, List.getElem?_cons_zero]
        go_simp
        (with_reducible refine Calls.mono (HPz.out _) ?_)
        rintro e w4 ⟨v, rfl, ⟨pw, cw, rfl, hF4⟩, hb4⟩
        have kz : w4.heap[wo.heap.size]? = some (.cells #[.int .i64 0, .int .i64 0, .string ⟨#[]⟩, .slice none 0 0] 45 (0, 0)) := (hb4.block _ (by show wo.heap.size < (wo.alloc _).heap.size; simp)).trans (heap_alloc_new wo _)
        have hb4 : Below wo.heap.size wo w4 := ((Below.refl wo.heap.size wo).alloc (Nat.le_refl _) _).trans (((Below.refl _ _).drew.trans hb4).mono (by show wo.heap.size ≤ (wo.alloc _).heap.size; simp))
        have hF4 : FW wo.heap.size w4 (.slice pw vw.length cw) vw := hF4.mono (by show wo.heap.size ≤ (wo.alloc _).heap.size; simp)
        have Hkz := Lib.hid kz
        have z0 : w4.cell? ⟨wo.heap.size, 0, none⟩ = some (.int .i64 0) := cell_in kz
        have y0 : w4.frozen? ⟨wo.heap.size, 0, none⟩ = false := free_in kz
        have z1 : w4.cell? ⟨wo.heap.size, 1, none⟩ = some (.int .i64 0) := cell_in kz
        have y1 : w4.frozen? ⟨wo.heap.size, 1, none⟩ = false := free_in kz
        have z2 : w4.cell? ⟨wo.heap.size, 2, none⟩ = some (.string ⟨#[]⟩) := cell_in kz
        have y2 : w4.frozen? ⟨wo.heap.size, 2, none⟩ = false := free_in kz
        have z3 : w4.cell? ⟨wo.heap.size, 3, none⟩ = some (.slice none 0 0) := cell_in kz
        have y3 : w4.frozen? ⟨wo.heap.size, 3, none⟩ = false := free_in kz
        have zl := lt_of_block kz
        have HF4 := Lib.hid hF4
        have Hb4 := Lib.hid hb4
        clear hF4 hb4 kz
        go_wp2_with fail
        refine hK.out _ _ (HS.out _ Hb4.out) (fun _ => ?_)
        clear hK K
        try simp only [Act.put, List.setIfInBounds_toArray, List.set_cons_zero, List.set_cons_succ]
        refine hk_take (i := 17) (d := some 77) (v := ?_) (by kernel_rfl) (by kernel_rfl) (by kernel_rfl) (by kernel_rfl) (fun _ _ _ h => h) (by kernel_rfl) ?hy (by assumption) ?_
        case hy => (intro w hSw; (try dsimp only at hSw); simp only [List.getElem?_toArray, List.getElem?_cons_succ, List.getElem?_cons_zero]; go_simp; all_goals (with_reducible rfl))
        try simp only [Act.put, List.setIfInBounds_toArray, List.set_cons_zero, List.set_cons_succ]
        refine hk_take (i := 18) (d := some 95) (v := ?_) (by kernel_rfl) (by kernel_rfl) (by kernel_rfl) (by kernel_rfl) (fun _ _ _ h => h) (by kernel_rfl) ?hy (by assumption) ?_
        case hy => (intro w hSw; (try dsimp only at hSw); simp only [List.getElem?_toArray, List.getElem?_cons_succ, List.getElem?_cons_zero]; go_simp; all_goals (with_reducible rfl))
        try simp only [Act.put, List.setIfInBounds_toArray, List.set_cons_zero, List.set_cons_succ]
        refine hk_take (i := 19) (d := some 96) (v := ?_) (by kernel_rfl) (by kernel_rfl) (by kernel_rfl) (by kernel_rfl) (fun _ _ _ h => h) (by kernel_rfl) ?hy (by assumption) ?_
        case hy => (intro w hSw; (try dsimp only at hSw); simp only [List.getElem?_toArray, List.getElem?_cons_succ, List.getElem?_cons_zero]; go_simp; all_goals (with_reducible rfl))
        try simp only [Act.put, List.setIfInBounds_toArray, List.set_cons_zero, List.set_cons_succ]
        refine hk_call (i := 21) (by kernel_rfl) (by kernel_rfl) (fun K hK => ?_)
        simp only [List.getElem?_toArray, List.getElem?_cons_succ, List.getElem?_cons_zero]
        go_simp
        refine hK.out _ _ (HS.out _ ?_) (fun _ => ?_)
        · exact (((Hb4.out.setCell (p := ⟨wo.heap.size, 0, none⟩) (Nat.le_refl _) _).setCell (p := ⟨wo.heap.size, 1, none⟩) (Nat.le_refl _) _).setCell (p := ⟨wo.heap.size, 2, none⟩) (Nat.le_refl _) _).setCell (p := ⟨wo.heap.size, 3, none⟩) (Nat.le_refl _) _
        clear hK K
        try simp only [Act.put, List.setIfInBounds_toArray, List.set_cons_zero, List.set_cons_succ]
        refine hk_take (i := 22) (d := some 14) (v := ?_) (by kernel_rfl) (by kernel_rfl) (by kernel_rfl) (by kernel_rfl) (fun _ _ _ h => h) (by kernel_rfl) ?hy (by assumption) ?_
        case hy => (intro w hSw; (try dsimp only at hSw); simp only [List.getElem?_toArray, List.getElem?_cons_succ, List.getElem?_cons_zero]; go_simp; all_goals (with_reducible rfl))
        try simp only [Act.put, List.setIfInBounds_toArray, List.set_cons_zero, List.set_cons_succ]
        refine wpAnyH_done (by kernel_rfl) ?_ _
        go_upto_region 13 with fail
        refine go_nm (fun wC hC => ?_)
        have kC : wC.heap[wo.heap.size]? = some (.cells #[.int .i64 vk, .int .i64 vn, .string vt, .slice pw vw.length cw] 45 (0, 0)) := (by rw [hC]; exact heap_set (o := 3) (heap_set (o := 2) (heap_set (o := 1) (heap_set (o := 0) Hkz.out _) _) _) _)
        have hu9 : Upd [wo.heap.size] w4 wC := (by rw [hC]; exact ((((Upd.refl _ _).setCell (p := ⟨wo.heap.size, 0, none⟩) (.inl (by simp)) _).setCell (p := ⟨wo.heap.size, 1, none⟩) (.inl (by simp)) _).setCell (p := ⟨wo.heap.size, 2, none⟩) (.inl (by simp)) _).setCell (p := ⟨wo.heap.size, 3, none⟩) (.inl (by simp)) _)
        have hbC : Below wo.heap.size wo wC := Hb4.out.trans (hu9.below (by simp) Hb4.out.size)
        have HFC : Hid (FW w2.heap.size wC (.slice pw vw.length cw) vw) := Lib.hid ((HF4.out.keep (sk_upd hu9 (fun g hg => by rw [List.mem_singleton] at hg; subst hg; exact ⟨_, Hkz.out⟩) (by decide))).mono hzo)
        clear hu9 Hkz z0 z1 z2 z3 y0 y1 y2 y3 zl
        obtain ⟨q, hq⟩ : ∃ q, q = wo.heap.size := ⟨_, rfl⟩
        rw [← hq] at kC ⊢
        clear hq
        have HPC := HP.out.later hbC
        have HbC := Lib.hid (Hb.out.trans (hbC.mono hzo))
        have c0 : wC.cell? ⟨q, 0, none⟩ = some (.int .i64 vk) := cell_in kC
        have c1 : wC.cell? ⟨q, 1, none⟩ = some (.int .i64 vn) := cell_in kC
        have c2 : wC.cell? ⟨q, 2, none⟩ = some (.string vt) := cell_in kC
        have c3 : wC.cell? ⟨q, 3, none⟩ = some (.slice pw vw.length cw) := cell_in kC
        have cl := lt_of_block kC
        have hzC : w2.heap.size ≤ wC.heap.size := HbC.out.size
        obtain ⟨pL, nL, cL, hnL, hMb3, kL3, ownL, hwds⟩ := HPC
        obtain rfl : nL = j := by rw [hnL, HRl.out]
        have r0 : wC.cell? ⟨b, 0, none⟩ = some (.slice (some ⟨gk, ok, none⟩) n c) := cell_in kL3
        have r1 : wC.cell? ⟨b, 1, none⟩ = some (.slice pL nL cL) := cell_in kL3
        have rl := lt_of_block kL3
        have n0 : wC.cell? ⟨gk, ok + nL * 6, none⟩ = some (.string (B k.name)) := HKc.out wC HbC.out
        have gl : gk < wC.heap.size := by omega
        have HkL := Lib.hid kL3
        have HoL := Lib.hid ownL
        have HGr := Lib.hid fun (w5 : World) (g' cap' : Nat) => fun ho hg => rpart_grown (w0 := w2) (w5 := w5) (g' := g') (cap' := cap') (x := ⟨k.name, ⟨⟨vk, vn, vt, vw⟩, pw, cw, 0⟩⟩) hnL hMb3 hzC kL3 ownL hwds HFC.out HbC.out ho hg
        have Hne := Lib.hid (own_ne9 HoL.out HkL.out (by decide))
        have HR2 : Hid ((S ++ [(⟨k.name, ⟨⟨vk, vn, vt, vw⟩, pw, cw, 0⟩⟩ : Sg)]).map Sg.ns = (D.take (nL + 1)).map dfltS) := Lib.hid (by
          rw [List.map_append, HR.out, List.take_add_one, Hk.out]
          simp only [Option.toList, List.map_append, List.map_cons, List.map_nil]
          congr 2
          show (k.name, Vs.mk _ _) = (k.name, dfltV k)
          rw [← HVs.out]
          rfl)
        clear hC kC hbC kL3 ownL hwds hnL HFC HP Hb4 HF4 k0 k1 k2 k3 k4 k5 kL b0 bl
        obtain ⟨nm, hnm⟩ : ∃ nm, nm = B k.name := ⟨_, rfl⟩
        rw [← hnm] at n0
        have Hnm := Lib.hid hnm
        clear hnm
        go_region_law (first
          | (refine step_append_k (by rfl) _ _ 39 (by rfl) 47 i1 _ 6 80 Tryz.underlying39 si sz0 sz1 sz2 rfl (by omega) _ (by rfl) (by rfl) w2.heap.size _ nL _ (by rfl) HoL.out (by simp [Value.oneCell']) (by omega) (by omega) hzC ?_; intro g8 c8 w8 hown8 hgrow8 _ _ _; have HGo := Lib.hid (HGr.out w8 g8 c8 (by rw [Hnm.out] at hown8; exact hown8) hgrow8); have k3 := (hgrow8.block _ (lt_of_block HkL.out) Hne.out).trans HkL.out; have q3 : w8.cell? ⟨b, 1, none⟩ = some (.slice pL nL cL) := cell_in k3; have q4 : w8.frozen? ⟨b, 1, none⟩ = false := free_in k3; have q5 := lt_of_block k3; clear hown8 hgrow8 k3)
          | (refine step_append_k0 (by rfl) _ _ 39 (by rfl) 47 i1 _ 6 80 Tryz.underlying39 si sz0 sz1 sz2 rfl (by omega) _ (by rfl) (by rfl) w2.heap.size _ nL _ (by rfl) HoL.out (by simp [Value.oneCell']) (by omega) (by omega) hzC ?_; intro g8 c8 w8 hown8 hgrow8 _ _ _; have HGo := Lib.hid (HGr.out w8 g8 c8 (by rw [Hnm.out] at hown8; exact hown8) hgrow8); have k3 := (hgrow8.block _ (lt_of_block HkL.out) Hne.out).trans HkL.out; have q3 : w8.cell? ⟨b, 1, none⟩ = some (.slice pL nL cL) := cell_in k3; have q4 : w8.frozen? ⟨b, 1, none⟩ = false := free_in k3; have q5 := lt_of_block k3; clear hown8 hgrow8 k3)
          | fail)
        all_goals
          go_wp2_with fail
          go_roundw
          case rel => exact ⟨nL + 1, _, by omega, by go_num, HR2, Lib.hid HGo.out.1, Lib.hid HGo.out.2⟩
          case measure => simp [intOf]; omega
    · obtain rfl : j = n := by omega
      have q1 : decide ((j : Int) < (j : Int)) = false := by rw [decide_eq_false_iff_not]; omega
      have q2 : decide (j < j) = false := by rw [decide_eq_false_iff_not]; omega
      have HRf : Hid (S.map Sg.ns = D.map dfltS) := Lib.hid (by rw [HR.out, List.take_of_length_le (by rw [← HDn.out]; exact Nat.le_refl _)])
      go_wp2_with fail
      refine wp_loop_rounds 1 ?_
      rw [rounds_succ]
      go_wp2_with fail
      refine bodyPost_ret (results_tmp4 rfl _ _ _) rfl ?_
      exact ⟨⟨w2.heap.size, b, p, c, S, rfl, Hb2.out.size, by rw [← HDn.out]; exact HK.out _ Hb.out, by rw [← HDn.out]; exact HP.out, HRf.out⟩, Hb2.out.trans (Hb.out.mono Hb2.out.size)⟩
end Go.Proofs.YtbelnaiekbfoiaaGreatDoor.dr
/- law 12: both (of no given), awake. Conditions: the listed variables hold what the program's text lays. -/
namespace Go.Proofs.YtbelnaiekbfoiaaGreatDoor.dr
open Go.ChangeShapes Go.WideShapes Go.ChangeAt Go.RowKit gl va ls ky ly

theorem dflt0 : stdK.map dfltV = vs0 := rfl
set_option maxHeartbeats 2000000 in
set_option maxRecDepth 100000 in
theorem both12_any (w : World) (hV : Vlo w) :
    Calls Tryz.prog 57 #[.slice none 0 0, .slice none 0 0] w fun e w' => (∃ M b hs R y, e = .returned (.tuple #[.pointer (some ⟨b, 0, none⟩), .pointer (some ⟨y, 0, none⟩), .bool true]) ∧ w.heap.size ≤ M ∧ M ≤ w'.heap.size ∧ LSet M w' b hs stdK R ∧ R.map Hd.vs = vs0) ∧ Below w.heap.size w w' := by
  have HSt := Lib.hid (Standard_any w hV)
  have HV := Lib.hid fun W (h : Below w.heap.size w W) => hV.below h (Nat.le_refl _)
  clear hV
  go_enter Tryz.func57, Tryz.ntmps57
  go_wp2_with fail
  refine HSt.out.mono ?_
  rintro e w1 ⟨⟨s, rfl, hs⟩, hb1⟩
  have Hb1 := Lib.hid hb1
  have HM := Lib.hid (Merge0_any _ s stdK w1 hs (HV.out _ hb1))
  have hz1 : w.heap.size ≤ w1.heap.size := hb1.size
  clear hs hb1 HSt
  go_wp2_with fail
  refine HM.out.mono ?_
  rintro e w2 ⟨⟨b, hs, R, rfl, hL, hR⟩, hb2⟩
  have Hb2 := Lib.hid (Hb1.out.trans (hb2.mono hz1))
  have HL := Lib.hid hL
  have HR := Lib.hid hR
  have hz2 : w1.heap.size ≤ w2.heap.size := hb2.size
  clear hL hR hb2 HM
  go_wp2_with fail
  refine (refStandard_any w2).mono ?_
  rintro e w3 ⟨⟨s3, rfl, hr⟩, hb3⟩
  have Hb3 := Lib.hid (Hb2.out.trans (hb3.mono (by omega)))
  have HL3 := Lib.hid (HL.out.later hb3)
  have HM3 := Lib.hid (refMerge0_any s3 stdK (by decide) (by decide) std_asc std_ok w3 hr)
  have hz3 : w2.heap.size ≤ w3.heap.size := hb3.size
  clear hr hb3 HL
  go_wp2_with fail
  refine HM3.out.mono ?_
  rintro e w4 ⟨⟨M4, b4, pk, ck, S4, rfl, _, _, _, _⟩, hb4⟩
  have Hb4 := Lib.hid (Hb3.out.trans (hb4.mono (by omega)))
  have HL4 := Lib.hid (HL3.out.later hb4)
  have hz4 : w3.heap.size ≤ w4.heap.size := hb4.size
  clear hb4 HM3 HL3
  go_wp2_with fail
  go_ret3
  exact ⟨⟨w1.heap.size, b, hs, R, b4, rfl, hz1, by omega, HL4.out, HR.out.trans dflt0⟩, Hb4.out⟩
set_option maxHeartbeats 4000000 in
set_option maxRecDepth 100000 in
theorem awake12_any (w : World) (hV : Vlo w) : Calls Tryz.prog 24 #[] w fun e w' => e = .returned (.bool true) ∧ Below w.heap.size w w' := by
  have HBo := Lib.hid (both12_any w hV)
  have HV := Lib.hid fun W (h : Below w.heap.size w W) => hV.below h (Nat.le_refl _)
  clear hV
  go_enter Tryz.func24, Tryz.ntmps24
  go_wp2_with fail
  refine HBo.out.mono ?_
  rintro e w1 ⟨⟨M, b, hs, R, y, rfl, hM0, hM1, hL, hR⟩, hb1⟩
  have Hb1 := Lib.hid hb1
  have HL := Lib.hid hL
  have HR := Lib.hid hR
  have hz1 : w.heap.size ≤ w1.heap.size := hb1.size
  clear hL hR hb1 HBo
  go_wp2_with fail
  refine (std_any w1).mono ?_
  rintro e w2 ⟨⟨p2, R2, rfl, hn2⟩, hb2⟩
  obtain ⟨q2, rfl, hq2⟩ := rus_parts hn2.rus
  have Hb2 := Lib.hid (Hb1.out.trans (hb2.mono hz1))
  have hz2 : w1.heap.size ≤ w2.heap.size := hb2.size
  have HRun := Lib.hid (run_any M b hs R HR.out p2 3 q2 w2 (HL.out.later hb2) (by omega) hq2 (fun W hW => HV.out W (Hb2.out.trans (hW.mono hM0))))
  have HOw : Hid (∀ g ∈ hs.ownBlock.toList, w.heap.size ≤ g) := Lib.hid fun g hg => Nat.le_trans hM0 (blk_owned HL.out.held g (by simpa [Option.mem_toList] using hg)).1
  clear hn2 hq2 hb2 HL
  go_wp2_with fail
  refine HRun.out.mono ?_
  rintro e w3 ⟨⟨rfl, R3, hL3, hR3⟩, hu3⟩
  have Hb3 := Lib.hid (Hb2.out.trans (hu3.below HOw.out (by omega)))
  have HL3 := Lib.hid hL3
  have HR3 := Lib.hid hR3
  have hz3 : w2.heap.size ≤ w3.heap.size := hu3.size
  have HG1 := Lib.hid (get_at M b hs R3 hR3 3 tWk 2 3 5 at3d ⟨_, rfl, rfl⟩ w3 hL3)
  clear hL3 hR3 hu3 HRun
  go_wp2_with fail
  refine HG1.out.mono ?_
  rintro e w4 ⟨⟨pa, rfl⟩, hb4⟩
  have Hb4 := Lib.hid (Hb3.out.trans (hb4.mono (by omega)))
  have HL4 := Lib.hid (HL3.out.later hb4)
  have hz4 : w3.heap.size ≤ w4.heap.size := hb4.size
  clear hb4 HG1 HL3
  have HG2 := Lib.hid fun (W : World) (hW : Below w4.heap.size w4 W) => get_at M b hs R3 HR3.out 1 tLm 2 48 5 at1d ⟨_, rfl, rfl⟩ W (HL4.out.later hW)
  go_upto_region 6 with fail
  refine go_nm (fun wA hA => ?_)
  have kA : wA.heap[w4.heap.size]? = some (.cells #[.string (B tWk), .int .i64 2, .int .i64 3, .string ByteArray.empty, .slice pa 0 0, .int .i64 5] 47 (0, 0)) := by rw [hA]; exact heap_alloc_new w4 _
  have hbA : Below w4.heap.size w4 wA := by rw [hA]; exact (Below.refl _ _).alloc (Nat.le_refl _) _
  have HkA := Lib.hid kA
  have HbA := Lib.hid hbA
  obtain ⟨qa, hqa⟩ : ∃ q, q = w4.heap.size := ⟨_, rfl⟩
  rw [← hqa] at HkA ⊢
  clear hA kA hbA hqa
  go_wp2_with fail
  refine (HG2.out wA HbA.out).mono ?_
  rintro e w5 ⟨⟨pb, rfl⟩, hb5⟩
  have Hk5 := Lib.hid ((hb5.block _ (lt_of_block HkA.out)).trans HkA.out)
  have Hb5 := Lib.hid (Hb4.out.trans ((HbA.out.trans (hb5.mono HbA.out.size)).mono (by omega)))
  have hz5 : w.heap.size ≤ w5.heap.size := Hb5.out.size
  clear hb5 HG2 HkA
  go_upto_region 7 with fail
  refine go_nm (fun wC hC => ?_)
  have kC : wC.heap[w5.heap.size]? = some (.cells #[.string (B tLm), .int .i64 2, .int .i64 48, .string ByteArray.empty, .slice pb 0 0, .int .i64 5] 47 (0, 0)) := by rw [hC]; exact heap_alloc_new w5 _
  have hbC : Below w5.heap.size w5 wC := by rw [hC]; exact (Below.refl _ _).alloc (Nat.le_refl _) _
  have HkC := Lib.hid kC
  have HkA := Lib.hid ((hbC.block _ (lt_of_block Hk5.out)).trans Hk5.out)
  have HbC := Lib.hid (Hb5.out.trans (hbC.mono hz5))
  obtain ⟨qc, hqc⟩ : ∃ q, q = w5.heap.size := ⟨_, rfl⟩
  rw [← hqc] at HkC ⊢
  have hzC : w.heap.size ≤ wC.heap.size := HbC.out.size
  clear hC kC hbC hqc Hk5
  go_wp2_with fail
  refine (std_any wC).mono ?_
  rintro e w6 ⟨⟨p6, R6, rfl, hn6⟩, hb6⟩
  obtain ⟨q6, rfl, hq6⟩ := rus_parts hn6.rus
  have HkC6 := Lib.hid ((hb6.block _ (lt_of_block HkC.out)).trans HkC.out)
  have HkA6 := Lib.hid ((hb6.block _ (lt_of_block HkA.out)).trans HkA.out)
  have Hb6 := Lib.hid (HbC.out.trans (hb6.mono hzC))
  have HOr := Lib.hid (order_any p6 3 q6 w6 hq6 (HV.out w6 Hb6.out).glo)
  have hz6 : w.heap.size ≤ w6.heap.size := Hb6.out.size
  clear hn6 hq6 hb6
  go_wp2_with fail
  refine HOr.out.mono ?_
  rintro e w7 ⟨⟨po, co, rfl, hro⟩, hb7⟩
  obtain ⟨bo, oo, rfl, hbo⟩ := hro.ptr.2.2 (by omega)
  have k7 := (hb7.block _ (lt_of_block HkC6.out)).trans HkC6.out
  have j7 := (hb7.block _ (lt_of_block HkA6.out)).trans HkA6.out
  have a2 : w7.cell? ⟨qa, 2, none⟩ = some (.int .i64 3) := cell_in j7
  have a5 : w7.cell? ⟨qa, 5, none⟩ = some (.int .i64 5) := cell_in j7
  have al := lt_of_block j7
  have c2 : w7.cell? ⟨qc, 2, none⟩ = some (.int .i64 48) := cell_in k7
  have cl := lt_of_block k7
  have o0 : w7.cell? ⟨bo, oo, none⟩ = some (.int .i64 1) := by
    have := rw.Rw.cell hro (j := 0) (x := (1 : Int)) rfl (i := 0) rfl
    rwa [Nat.zero_mul, Nat.add_zero] at this
  have o1 : w7.cell? ⟨bo, oo + 1, none⟩ = some (.int .i64 0) := by
    have := rw.Rw.cell hro (j := 1) (x := (0 : Int)) rfl (i := 0) rfl
    rwa [Nat.one_mul, Nat.add_zero] at this
  have o2 : w7.cell? ⟨bo, oo + 2, none⟩ = some (.int .i64 2) := by
    have := rw.Rw.cell hro (j := 2) (x := (2 : Int)) rfl (i := 0) rfl
    rwa [Nat.mul_one, Nat.add_zero] at this
  have Hb7 := Lib.hid (Hb6.out.trans (hb7.mono hz6))
  clear hb7 k7 j7 hro HOr
  go_wp2_with fail
  go_ret
  exact ⟨rfl, Hb7.out⟩
end Go.Proofs.YtbelnaiekbfoiaaGreatDoor.dr
/- The blocks from one on, below another. No program in sight; no conditions. -/
namespace Go.Proofs.YtbelnaiekbfoiaaGreatDoor
/-- The blocks from B on, below M. -/
def span (B M : Nat) : List Nat := (List.range (M - B)).map (B + ·)
theorem mem_span {B M k : Nat} : k ∈ span B M ↔ B ≤ k ∧ k < M := by
  simp only [span, List.mem_map, List.mem_range]
  constructor
  · rintro ⟨a, h1, rfl⟩; omega
  · rintro ⟨h1, h2⟩; exact ⟨k - B, by omega, by omega⟩
end Go.Proofs.YtbelnaiekbfoiaaGreatDoor
/- law 12: DeriveStands. Conditions: the listed variables hold what the program's text lays. -/
namespace Go.Proofs.YtbelnaiekbfoiaaGreatDoor.dr
open Go.ChangeShapes Go.WideShapes Go.ChangeAt Go.RowKit gl va ls ky ly

/-- Rules whose owner writes them over: those from the j-th on are as they came. -/
def OwnA (M0 M1 : Nat) (w : World) (g j : Nat) : Prop :=
  ∃ cs, w.heap[g]? = some (.cells cs 59 (0, 0)) ∧ 12 ≤ cs.size ∧ M0 ≤ g ∧ g < M1 ∧ ∀ i, j ≤ i → i < 3 → ∃ pb nc cs', cs[i * 4 + 1]? = some (.slice (some ⟨pb, 0, none⟩) 1 nc) ∧ M0 ≤ pb ∧ pb < M1 ∧ w.heap[pb]? = some (.cells cs' 9 (0, 0)) ∧ 1 ≤ cs'.size
theorem OwnA.below {M0 M1 g j : Nat} {w w' : World} (h : OwnA M0 M1 w g j) (hb : Below w.heap.size w w') : OwnA M0 M1 w' g j := by
  obtain ⟨cs, h1, h2, h3, h4, h5⟩ := h
  refine ⟨cs, (hb.block g (lt_of_block h1)).trans h1, h2, h3, h4, fun i hi hi3 => ?_⟩
  obtain ⟨pb, nc, cs', e1, e2, e3, e4, e5⟩ := h5 i hi hi3
  exact ⟨pb, nc, cs', e1, e2, e3, (hb.block pb (lt_of_block e4)).trans e4, e5⟩
/-- A word is written over. -/
theorem OwnA.word {M0 M1 g j : Nat} {w : World} (h : OwnA M0 M1 w g j) {pb : Nat} {cp : Array Value} (hp : w.heap[pb]? = some (.cells cp 9 (0, 0))) (u : Value) : OwnA M0 M1 (w.setCell ⟨pb, 0, none⟩ u) g j := by
  obtain ⟨cs, h1, h2, h3, h4, h5⟩ := h
  refine ⟨cs, heap_set_ne h1 u (ne_of_types h1 hp (by decide)), h2, h3, h4, fun i hi hi3 => ?_⟩
  obtain ⟨p2, nc, cs', e1, e2, e3, e4, e5⟩ := h5 i hi hi3
  by_cases e : p2 = pb
  · subst e
    exact ⟨p2, nc, _, e1, e2, e3, heap_set e4 u, by simpa using e5⟩
  · exact ⟨p2, nc, cs', e1, e2, e3, heap_set_ne e4 u e, e5⟩
/-- A cell of the rules is written over. -/
theorem OwnA.cell {M0 M1 g j : Nat} {w : World} (h : OwnA M0 M1 w g (j + 1)) {o : Nat} (ho : o < (j + 1) * 4) (u : Value) : OwnA M0 M1 (w.setCell ⟨g, o, none⟩ u) g (j + 1) := by
  obtain ⟨cs, h1, h2, h3, h4, h5⟩ := h
  refine ⟨_, heap_set h1 u, by simpa using h2, h3, h4, fun i hi hi3 => ?_⟩
  obtain ⟨p2, nc, cs', e1, e2, e3, e4, e5⟩ := h5 i hi hi3
  refine ⟨p2, nc, cs', ?_, e2, e3, heap_set_ne e4 u (ne_of_types e4 h1 (by decide)), e5⟩
  rw [Array.getElem?_setIfInBounds_ne (by omega)]
  exact e1
theorem OwnA.next {M0 M1 g j : Nat} {w : World} (h : OwnA M0 M1 w g j) : OwnA M0 M1 w g (j + 1) := by
  obtain ⟨cs, h1, h2, h3, h4, h5⟩ := h
  exact ⟨cs, h1, h2, h3, h4, fun i hi hi3 => h5 i (by omega) hi3⟩
theorem new_own {M : Nat} {w : World} {p : Option Addr} {c : Nat} {R : List RuR} (h : NewRu M w (.slice p 3 c) R stdRu) : ∃ g, p = some ⟨g, 0, none⟩ ∧ OwnA M w.heap.size w g 0 := by
  obtain ⟨h1, h2, h3⟩ := h
  rcases h1 with ⟨rfl, _⟩ | ⟨g, c', cs, e, hc, hM, hg, hcs, hat⟩
  · cases h2
  · injection e with e1 e2 e3
    have hl : R.length = 3 := h2
    refine ⟨g, e1, cs, hg, by omega, hM, lt_of_block hg, fun i _ hi3 => ?_⟩
    obtain ⟨m, hm⟩ : ∃ m, stdRu[i]? = some m := ⟨_, List.getElem?_eq_getElem (by rw [std_len3]; exact hi3)⟩
    obtain ⟨r, hr⟩ : ∃ r, R[i]? = some r := ⟨_, List.getElem?_eq_getElem (by rw [hl]; exact hi3)⟩
    obtain ⟨_, _, _, hn⟩ := h3 i r m hr hm
    have hml : m.needs.length = 1 := by rcases three hm with ⟨_, rfl⟩ | ⟨_, rfl⟩ | ⟨_, rfl⟩ <;> rfl
    have hcell : cs[i * 4 + 1]? = some r.vn := by
      have := hat (i * 4 + 1) r.vn (rw.flat_at ruC_len R i r 1 _ hr rfl)
      rwa [Nat.zero_add] at this
    rcases hn with ⟨e0, _⟩ | ⟨pb, c2, cs2, e4, hc2, hM2, hp, hcs2, _⟩
    · rw [e0] at hml; cases hml
    · rw [hml] at e4 hc2
      rw [e4] at hcell
      exact ⟨pb, c2, cs2, hcell, hM2, lt_of_block hp, hp, by omega⟩
theorem newru_upd {M : Nat} {w w' : World} {v : Value} {R : List RuR} {l : List Ru} {S : List Nat} (h : NewRu M w v R l) (hu : Upd S w w') (hS : ∀ k ∈ S, k < M) : NewRu M w' v R l := by
  obtain ⟨h1, h2, h3⟩ := h
  refine ⟨?_, h2, fun i r m hr hm => ?_⟩
  · rcases h1 with h1 | ⟨g, c, cs, e, hc, hM, hg, r⟩
    · exact .inl h1
    · exact .inr ⟨g, c, cs, e, hc, hM, hu.obj hg (fun hm => by have := hS g hm; omega), r⟩
  · obtain ⟨a, b, c, d⟩ := h3 i r m hr hm
    refine ⟨a, b, c, ?_⟩
    rcases d with d | ⟨g, c, cs, e, hc, hM, hg, r⟩
    · exact .inl d
    · exact .inr ⟨g, c, cs, e, hc, hM, hu.obj hg (fun hm => by have := hS g hm; omega), r⟩
set_option maxHeartbeats 8000000 in
set_option maxRecDepth 100000 in
theorem deriveStands_any (w : World) (hV : Vlo w) : Calls Tryz.prog 7 #[] w fun e w' => e = .returned (.bool true) ∧ Below w.heap.size w w' := by
  obtain ⟨i1, hi, hz0, hz1, hz2⟩ := info_parts infoRu
  have HAw := Lib.hid (awake12_any w hV)
  clear hV
  go_enter Tryz.func7, Tryz.ntmps7
  go_wp2_with fail
  refine HAw.out.mono ?_
  rintro e w1 ⟨rfl, hb1⟩
  have Hb1 := Lib.hid hb1
  have hz1' : w.heap.size ≤ w1.heap.size := hb1.size
  clear hb1 HAw
  go_wp2_with fail
  refine (refStd_any w1).mono ?_
  rintro e w2 ⟨⟨p2, R2, rfl, hn2⟩, hb2⟩
  have HW2 := Lib.hid hn2.rus
  have Hb2 := Lib.hid (Hb1.out.trans (hb2.mono hz1'))
  have hz2' : w.heap.size ≤ w2.heap.size := Hb2.out.size
  clear hn2 hb2
  go_wp2_with fail
  refine (std_any w2).mono ?_
  rintro e w3 ⟨⟨p3, R3, rfl, hn3⟩, hb3⟩
  obtain ⟨g, rfl, hOA⟩ := new_own hn3
  have HA3 := Lib.hid hn3.rus
  have HOA := Lib.hid hOA
  have HX3 := Lib.hid hb3
  have Hb3 := Lib.hid (Hb2.out.trans (hb3.mono hz2'))
  have hz3 : w2.heap.size ≤ w3.heap.size := hb3.size
  clear hn3 hb3 hOA
  go_wp2_with fail
  refine (std_any w3).mono ?_
  rintro e w4 ⟨⟨p4, R4, rfl, hn4⟩, hb4⟩
  have HN4 := Lib.hid hn4
  have HX4 := Lib.hid (HX3.out.trans (hb4.mono hz3))
  have HA4 := Lib.hid (HA3.out.later hb4)
  have HO4 := Lib.hid (HOA.out.below hb4)
  have hz4 : w3.heap.size ≤ w4.heap.size := hb4.size
  clear hn4 hb4 HA3 HOA
  go_wp2_with fail
  refine (rules_any _ p2 3 3 R3 R2 w4 HA4.out (HW2.out.later HX4.out)).mono ?_
  rintro e w5 ⟨rfl, hb5⟩
  have HX5 := Lib.hid (HX4.out.trans (hb5.mono (by omega)))
  have HN5 := Lib.hid (HN4.out.later hb5)
  have HO5 := Lib.hid (HO4.out.below hb5)
  have hz5 : w4.heap.size ≤ w5.heap.size := hb5.size
  clear hb5 HA4 HN4 HO4
  go_wp2_with fail
  refine (rules_any p4 p2 3 3 R4 R2 w5 HN5.out.rus (HW2.out.later HX5.out)).mono ?_
  rintro e w6 ⟨rfl, hb6⟩
  have HX6 := Lib.hid (HX5.out.trans (hb6.mono (by omega)))
  have HN6 := Lib.hid (HN5.out.later hb6)
  have HO6 := Lib.hid (HO5.out.below hb6)
  have hz6 : w5.heap.size ≤ w6.heap.size := hb6.size
  have HU6 : Hid (Upd (span w2.heap.size w3.heap.size) w6 w6) := Lib.hid (Upd.refl _ _)
  clear hb6 HN5 HO5
  go_wp2_with fail
  go_loopw [7] (fun vi wr => ∃ j : Nat, j ≤ 3 ∧ vi = .int .i64 j ∧ Hid (OwnA w2.heap.size w3.heap.size wr g j) ∧ Hid (Upd (span w2.heap.size w3.heap.size) w6 wr)) (fun vi _ => 3 - (intOf vi).toNat)
  case atStart => exact ⟨0, by omega, rfl, HO6, HU6⟩
  case round =>
    clear HO6 HU6
    obtain ⟨wo, rfl⟩ : ∃ wo, wo = wr := ⟨_, rfl⟩
    obtain ⟨j, hj, rfl, HO, HU⟩ := hrel
    by_cases hlt : j < 3
    · obtain ⟨cs, hg, hcs, hM0, hM1, hall⟩ := HO.out
      obtain ⟨pb, nc, cp, e1, hp0, hp1, hpb, hcp⟩ := hall j (Nat.le_refl _) hlt
      have HO1 := Lib.hid (HO.out.word hpb (.string ⟨#[111, 118, 101, 114]⟩))
      have HU1 := Lib.hid (HU.out.setCell (p := ⟨pb, 0, none⟩) (.inl (mem_span.2 ⟨hp0, hp1⟩)) (.string ⟨#[111, 118, 101, 114]⟩))
      have c1 : wo.cell? ⟨g, j * 4 + 1, none⟩ = some (.slice (some ⟨pb, 0, none⟩) 1 nc) := by rw [cell_in hg]; exact e1
      have gl := lt_of_block hg
      obtain ⟨old, ho⟩ : ∃ old, wo.cell? ⟨pb, 0, none⟩ = some old := ⟨cp[0]'(by omega), by rw [cell_in hpb]; exact Array.getElem?_eq_getElem _⟩
      have hf : wo.frozen? ⟨pb, 0, none⟩ = false := free_in hpb
      have pl := lt_of_block hpb
      have hji : (j : Int) < 3 := by omega
      have hj0 : (0 : Int) ≤ (j : Int) := by omega
      have q1 : decide ((j : Int) < 3) = true := by rw [decide_eq_true_iff]; omega
      have hne : g ≠ pb := ne_of_types hg hpb (by decide)
      clear hall hg hpb e1
      go_wp2_with fail
      refine wp_loop_rounds 2 ?_
      rw [rounds_succ]
      go_upto_region 14 with fail
      refine go_nm (fun wS hS => ?_)
      have HO2 : Hid (OwnA w2.heap.size w3.heap.size wS g j) := Lib.hid (by rw [hS]; exact HO1.out)
      have HU2 : Hid (Upd (span w2.heap.size w3.heap.size) w6 wS) := Lib.hid (by rw [hS]; exact HU1.out)
      have hcS : wS.cell? ⟨g, j * 4 + 1, none⟩ = some (.slice (some ⟨pb, 0, none⟩) 1 nc) := by rw [hS]; exact cell_far c1 hne
      obtain ⟨c2, hg2, hcs2, _, _, _⟩ := HO2.out
      have gl2 := lt_of_block hg2
      have hc5 : ∀ i, i < 4 → ∃ u, wS.cell? ⟨g, j * 4 + i, none⟩ = some u := fun i hi => ⟨c2[j * 4 + i]'(by omega), by rw [cell_in hg2]; exact Array.getElem?_eq_getElem _⟩
      obtain ⟨u0, d0⟩ := hc5 0 (by omega)
      obtain ⟨u2, d2⟩ := hc5 2 (by omega)
      obtain ⟨u3, d3⟩ := hc5 3 (by omega)
      rw [Nat.add_zero] at d0
      have fr : ∀ o, wS.frozen? ⟨g, o, none⟩ = false := fun o => free_in hg2
      have HO3 := Lib.hid fun (x0 x1 x2 x3 : Value) => (((HO2.out.next.cell (o := j * 4) (by omega) x0).cell (o := j * 4 + 1) (by omega) x1).cell (o := j * 4 + 2) (by omega) x2).cell (o := j * 4 + 3) (by omega) x3
      have HU3 := Lib.hid fun (x0 x1 x2 x3 : Value) => (((HU2.out.setCell (p := ⟨g, j * 4, none⟩) (.inl (mem_span.2 ⟨hM0, hM1⟩)) x0).setCell (p := ⟨g, j * 4 + 1, none⟩) (.inl (mem_span.2 ⟨hM0, hM1⟩)) x1).setCell (p := ⟨g, j * 4 + 2, none⟩) (.inl (mem_span.2 ⟨hM0, hM1⟩)) x2).setCell (p := ⟨g, j * 4 + 3, none⟩) (.inl (mem_span.2 ⟨hM0, hM1⟩)) x3
      clear hS c1 ho hf pl hc5 hg2 HO1 HU1 HO HU gl
      go_wp2_with fail
      rw [rounds_succ]
      go_wp2_with fail
      go_roundw
      case rel => exact ⟨j + 1, by omega, by go_num, Lib.hid (HO3.out _ _ _ _), Lib.hid (HU3.out _ _ _ _)⟩
      case measure => simp [intOf]; omega
    · obtain rfl : j = 3 := by omega
      have hsp : ∀ k ∈ span w2.heap.size w3.heap.size, w2.heap.size ≤ k ∧ k < w3.heap.size := fun k hk => mem_span.1 hk
      have HXo := Lib.hid (HX6.out.trans (HU.out.below (fun k hk => (hsp k hk).1) (by omega)))
      have HNo := Lib.hid (newru_upd HN6.out HU.out fun k hk => (hsp k hk).2)
      have hzo : w6.heap.size ≤ wo.heap.size := HU.out.size
      obtain ⟨cs, hg, hcs, hM0, hM1, _⟩ := HO.out
      have HCG := Lib.hid hg
      have gl := lt_of_block hg
      have Hcs := Lib.hid hcs
      clear hsp hg HO HU HN6
      go_wp2_with (at_builtin; refine wpList_append_grows _ rfl (.tmp 58) (.tmp 60) 55 rfl 59 i1 (.agg #[.string .empty, .slice none 0 0, .int .i64 0, .int .i64 0]) 4 56 Tryz.underlying55 hi hz0 hz1 hz2 rfl (by decide) (some ⟨g, 0, none⟩) 3 3 (cs.toList.take 12) rfl (fun h => by cases h) ?c00 ?c0 ⟨wo.heap.size, 0, none⟩ 1 1 [.string ⟨#[109, 111, 114, 101]⟩, .slice none 0 0, .int .i64 0, .int .i64 0] rfl rfl ?c1 ?c2 (by omega) (by unfold maxLen; omega) (by omega) ?grow)
      case c00 => rw [List.length_take, Array.length_toList]; omega
      case c0 =>
        intro b hb jj u hu
        cases hb
        rw [add_zero']
        refine (World.cell?_of_block (Below.heap_alloc wo _ g gl)).trans ?_
        rw [cell_in HCG.out]
        rw [List.getElem?_take] at hu
        split at hu
        · rw [← Array.getElem?_toList]; exact hu
        · cases hu
      case c1 =>
        intro j u hj
        match j, hj with
        | 0, hj => obtain rfl := Option.some.inj hj; simp [Addr.add]
        | 1, hj => obtain rfl := Option.some.inj hj; simp [Addr.add]
        | 2, hj => obtain rfl := Option.some.inj hj; simp [Addr.add]
        | 3, hj => obtain rfl := Option.some.inj hj; simp [Addr.add]
      case c2 => simp [Value.oneCell']
      case grow =>
        intro v' w7 hown hgrow
        obtain ⟨p7, c7, rfl⟩ : ∃ p c, v' = .slice p (3 + 1) c := by
          rcases hown.2 with ⟨rfl, h0⟩ | ⟨g, cap, cur, rfl, _⟩
          · omega
          · exact ⟨_, _, rfl⟩
        have hbel : Below wo.heap.size wo w7 := ((Below.refl _ _).alloc (Nat.le_refl _) _).grown hgrow (by simp) (fun k h => by cases h)
        have HX7 := Lib.hid (HXo.out.trans (hbel.mono (by omega)))
        have HN7 := Lib.hid (HNo.out.later hbel)
        have hz7 : wo.heap.size ≤ w7.heap.size := hbel.size
        clear hown hgrow hbel HNo HCG Hcs hcs gl
        go_wp2_with fail
        refine (rules_any p4 p2 3 3 R4 R2 w7 HN7.out.rus (HW2.out.later HX7.out)).mono ?_
        rintro e w8 ⟨rfl, hb8⟩
        have HX8 := Lib.hid (HX7.out.trans (hb8.mono (by omega)))
        have hz8 : w7.heap.size ≤ w8.heap.size := hb8.size
        clear hb8 HN7
        go_wp2_with fail
        refine (std_any w8).mono ?_
        rintro e w9 ⟨⟨p9, R9, rfl, hn9⟩, hb9⟩
        have HN9 := Lib.hid hn9.rus
        have HX9 := Lib.hid (HX8.out.trans (hb9.mono (by omega)))
        have hz9 : w8.heap.size ≤ w9.heap.size := hb9.size
        clear hn9 hb9
        go_wp2_with fail
        refine (rules_any p9 p2 3 3 R9 R2 w9 HN9.out (HW2.out.later HX9.out)).mono ?_
        rintro e w10 ⟨rfl, hb10⟩
        have HX10 := Lib.hid (HX9.out.trans (hb10.mono (by omega)))
        clear hb10
        go_wp2_with fail
        go_ret
        exact ⟨rfl, Hb2.out.trans (HX10.out.mono hz2')⟩
end Go.Proofs.YtbelnaiekbfoiaaGreatDoor.dr
