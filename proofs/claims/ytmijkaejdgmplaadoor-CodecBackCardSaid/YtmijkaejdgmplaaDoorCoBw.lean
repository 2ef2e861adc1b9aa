/- tinderboxlaw03.CodecBack returns true. Conditions: the items lie in memory as their list; the variable errors.errorType holds what the program's text lays. -/
import Derived.Test.YtmijkaejdgmplaaDoorCoBg
import Derived.Deep.RegionHeld3
namespace Go.Proofs.YtmijkaejdgmplaaDoor.co
open Go.ChangeShapes Go.WideShapes Go.ChangeAt Go.RowKit

structure ItemAt (w : World) (b off : Nat) (o : ItemD) : Prop where
  lt : b < w.heap.size
  c0 : w.cell? ⟨b, off, none⟩ = some (.bool o.text)
  c1 : w.cell? ⟨b, off + 1, none⟩ = some (.int .i64 o.n)
  c2 : w.cell? ⟨b, off + 2, none⟩ = some (.int .i64 o.more)
  c3 : w.cell? ⟨b, off + 3, none⟩ = some (.string o.s)
def Items (w : World) (p : Option Addr) (l : List ItemD) : Prop := ∀ i o, l[i]? = some o → o.ok ∧ ∃ b off, p = some ⟨b, off, none⟩ ∧ ItemAt w b (off + i * 4) o
instance : Inhabited ItemD := ⟨⟨false, 0, 0, .empty⟩⟩
theorem items_of {H : Type} {enc : TypeId × Value → H} {W : World} {v : Value} {d : DataW H} {ps : List MemPlace} (h : DataW.Trod enc Tryd.prog W 0 (fun _ => true) true 37 v d ps) (hv : v.cells.toList = [v]) :
    ∃ p cap l, v = .slice p l.length cap ∧ l.length ≤ maxLen ∧ Items W p l := by
  rcases open_rows Tryd.underlying37 Tryd.underlying39 (by kernel_rfl) (by kernel_rfl) h hv with h | ⟨a, len, cap, hs, hl, hm, hat⟩
  · exact ⟨none, 0, [], h, Nat.zero_le _, fun i o hi => by simp at hi⟩
  · have hall : ∀ i, i < len → ∃ o : ItemD, o.ok ∧ ∃ b off, a = ⟨b, off, none⟩ ∧ ItemAt W b (off + i * 4) o := by
      intro i hi
      obtain ⟨u0, y0, n0, c0, t0⟩ := hat i hi 0 _ rfl
      obtain ⟨u1, y1, n1, c1, t1⟩ := hat i hi 1 _ rfl
      obtain ⟨u2, y2, n2, c2, t2⟩ := hat i hi 2 _ rfl
      obtain ⟨u3, y3, n3, c3, t3⟩ := hat i hi 3 _ rfl
      obtain ⟨z0, e0, _⟩ := DataW.trod_bool Tryd.underlying4 t0
      obtain ⟨z1, e1, _, w1⟩ := DataW.trod_int Tryd.underlying3 t1
      obtain ⟨z2, e2, _, w2⟩ := DataW.trod_int Tryd.underlying3 t2
      obtain ⟨s, e3, _, w3⟩ := DataW.trod_string Tryd.underlying9 t3
      simp only [List.cons.injEq, and_true] at e0 e1 e2 e3
      subst e0 e1 e2 e3
      obtain ⟨v0, y0', n0', z, _⟩ := hat 0 (by omega) 0 _ rfl
      have hsp : a.spot = none := by
        have := spot_none z
        simpa [Addr.add] using this
      obtain ⟨b, off, sp⟩ := a
      simp only at hsp
      subst hsp
      have b1 := wf_bd w1
      have b2 := wf_bd w2
      unfold maxLen at w3
      rw [add_none] at c0 c1 c2 c3
      exact ⟨⟨z0, z1, z2, s⟩, ⟨b1.1, b1.2, b2.1, b2.2, by simp only; omega⟩, b, off, rfl, World.block_lt_of_cell? _ _ c0, c0, c1, c2, c3⟩
    obtain ⟨f, hf⟩ := Deep.choose_lt hall
    refine ⟨some a, cap, (List.range len).map f, by simpa using hs, by simp; omega, fun i o hi => ?_⟩
    simp only [List.getElem?_map, Option.map_eq_some_iff] at hi
    obtain ⟨j, hj, rfl⟩ := hi
    obtain ⟨hj1, rfl⟩ := List.getElem?_eq_some_iff.1 hj
    simp only [List.getElem_range]
    obtain ⟨h1, b, off, rfl, h2⟩ := hf i (by simpa using hj1)
    exact ⟨h1, b, off, rfl, h2⟩
theorem ItemAt.below {w w' : World} {b off : Nat} {o : ItemD} (h : ItemAt w b off o) (hb : Below w.heap.size w w') : ItemAt w' b off o :=
  ⟨Nat.lt_of_lt_of_le h.lt hb.size, (hb.cell h.lt).trans h.c0, (hb.cell h.lt).trans h.c1, (hb.cell h.lt).trans h.c2, (hb.cell h.lt).trans h.c3⟩

/-- A Writer of the call's own; a Reader of the call's own. -/
def WrAt (w0 w : World) (b : Nat) (s : Wst) : Prop := ∃ S, IsW w b s S ∧ (∀ k ∈ S, w0.heap.size ≤ k) ∧ Below w0.heap.size w0 w
def RdAt (w0 w : World) (b : Nat) (s : Rst) : Prop := ∃ S, IsR w b s S ∧ (∀ k ∈ S, w0.heap.size ≤ k) ∧ Below w0.heap.size w0 w
theorem WrAt.step {w0 w w' : World} {b : Nat} {s' : Wst} {S : List Nat} (hB : ∀ k ∈ S, w0.heap.size ≤ k) (hb : Below w0.heap.size w0 w) (hm : Moves S w w' (IsW w' b s')) : WrAt w0 w' b s' := by
  obtain ⟨S', h, hu, hS⟩ := hm
  exact ⟨S', h, fun k hk => (hS k hk).elim (hB k) fun h => Nat.le_trans hb.size h, hb.trans (hu.below hB hb.size)⟩
theorem RdAt.step {w0 w w' : World} {b : Nat} {s' : Rst} {S : List Nat} (hB : ∀ k ∈ S, w0.heap.size ≤ k) (hb : Below w0.heap.size w0 w) (hm : Moves S w w' (IsR w' b s')) : RdAt w0 w' b s' := by
  obtain ⟨S', h, hu, hS⟩ := hm
  exact ⟨S', h, fun k hk => (hS k hk).elim (hB k) fun h => Nat.le_trans hb.size h, hb.trans (hu.below hB hb.size)⟩
theorem WrAt.below {w0 w w' : World} {b : Nat} {s : Wst} (h : WrAt w0 w b s) (hb : Below w.heap.size w w') : WrAt w0 w' b s := by
  obtain ⟨S, h1, h2, h3⟩ := h
  exact ⟨S, h1.below hb, h2, h3.trans (hb.mono h3.size)⟩
theorem RdAt.below {w0 w w' : World} {b : Nat} {s : Rst} (h : RdAt w0 w b s) (hb : Below w.heap.size w w') : RdAt w0 w' b s := by
  obtain ⟨S, h1, h2, h3⟩ := h
  exact ⟨S, h1.below hb, h2, h3.trans (hb.mono h3.size)⟩
theorem WrAt.bel {w0 w : World} {b : Nat} {s : Wst} (h : WrAt w0 w b s) : Below w0.heap.size w0 w := by obtain ⟨S, h1, h2, h3⟩ := h; exact h3
theorem RdAt.bel {w0 w : World} {b : Nat} {s : Rst} (h : RdAt w0 w b s) : Below w0.heap.size w0 w := by obtain ⟨S, h1, h2, h3⟩ := h; exact h3

theorem infoStr : (Tryd.prog.info? 9).map (fun i => (i.zero, i.size, i.bytes)) = some (some (.string .empty), 1, 16) := by kernel_rfl

structure Env (w : World) (g gw N : Nat) (T : Nat → ByteArray) : Prop where
  tx : ∀ k, k < N → w.cell? ⟨g, k, none⟩ = some (.string (T k))
  gl : g < w.heap.size
  want : ∃ t, w.heap[gw]? = some (.cells #[.int .i64 0, .int .i64 33, .int .i64 32] t (0, 0))
theorem Env.below {w w' : World} {g gw N : Nat} {T : Nat → ByteArray} (h : Env w g gw N T) (hb : Below w.heap.size w w') : Env w' g gw N T := by
  obtain ⟨t, ht⟩ := h.want
  exact ⟨fun k hk => (hb.cell (p := ⟨g, k, none⟩) h.gl).trans (h.tx k hk), Nat.lt_of_lt_of_le h.gl hb.size, t, (hb.block _ (lt_of_block ht)).trans ht⟩
theorem RDone_at {w0 w : World} {b : Nat} {r : Rst} (hg : Reg w) (h : RdAt w0 w b r) : Calls Tryd.prog 26 #[.pointer (some ⟨b, 0, none⟩)] w fun ev w' => ev = .returned (.int .i64 r.done) ∧ Below w.heap.size w w' := by
  obtain ⟨S, h1, _, _⟩ := h
  exact RDone_any b r S w hg h1
theorem RLeft_at {w0 w : World} {b : Nat} {r : Rst} (h : RdAt w0 w b r) : Calls Tryd.prog 27 #[.pointer (some ⟨b, 0, none⟩)] w fun ev w' => ev = .returned (.int .i64 (r.left : Nat)) ∧ w = w' := by
  obtain ⟨S, h1, _, _⟩ := h
  exact RLeft_any b r S w h1

theorem held_call {w0 wp w' : World} {g k b : Nat} {v : Value} {r : Rst} (hS : wp.cell? ⟨g, k, none⟩ = some v ∧ Hid (RdAt w0 wp b r ∧ Reg wp)) (hb : Below wp.heap.size wp w') : w'.cell? ⟨g, k, none⟩ = some v ∧ Hid (RdAt w0 w' b r ∧ Reg w') :=
  ⟨(hb.cell (p := ⟨g, k, none⟩) (World.block_lt_of_cell? _ _ hS.1)).trans hS.1, Lib.hid ⟨hS.2.out.1.below hb, hS.2.out.2.below hb⟩⟩
theorem held_drew {w0 wp : World} {g k b : Nat} {v : Value} {r : Rst} (hS : wp.cell? ⟨g, k, none⟩ = some v ∧ Hid (RdAt w0 wp b r ∧ Reg wp)) : wp.drew.cell? ⟨g, k, none⟩ = some v ∧ Hid (RdAt w0 wp.drew b r ∧ Reg wp.drew) :=
  held_call hS (Below.drew (Below.refl _ _))
theorem done_c {w0 wp : World} {g k b : Nat} {v : Value} {r : Rst} {c : Int} (hd : r.done = c) (hS : wp.cell? ⟨g, k, none⟩ = some v ∧ Hid (RdAt w0 wp b r ∧ Reg wp)) : Calls Tryd.prog 26 #[.pointer (some ⟨b, 0, none⟩)] wp fun ev w' => ev = .returned (.int .i64 c) ∧ Below wp.heap.size wp w' := by
  rw [← hd]; exact RDone_at hS.2.out.2 hS.2.out.1
theorem left_c {w0 wp : World} {g k b : Nat} {v : Value} {r : Rst} (hl : r.left = 0) (hS : wp.cell? ⟨g, k, none⟩ = some v ∧ Hid (RdAt w0 wp b r ∧ Reg wp)) : Calls Tryd.prog 27 #[.pointer (some ⟨b, 0, none⟩)] wp fun ev w' => ev = .returned (.int .i64 0) ∧ wp = w' := by
  have := RLeft_at hS.2.out.1
  rw [hl] at this
  exact this

theorem done_ok {w0 w : World} {b : Nat} {r : Rst} {c : Int} (hr : RdAt w0 w b r) (h0 : r.err = 0) (hd : r.done = c) : ∀ n : Nat, Calls Tryd.prog 26 #[.pointer (some ⟨b, 0, none⟩)] (w.drewN n) fun ev w' => ev = .returned (.int .i64 c) ∧ w' = w.drewN n := fun n => by
  obtain ⟨S, h1, _, _⟩ := hr
  rw [← hd]; exact RDone_ok b r S _ (h1.below ⟨rfl, rfl, rfl, Nat.le_refl _, fun _ _ => rfl⟩) h0

theorem TX_0 (X x : ByteArray) : TX X x 0 = X := by unfold TX; rw [if_pos rfl]
theorem TX_1 (X x : ByteArray) : TX X x 1 = X ++ ⟨#[120]⟩ ++ x := by unfold TX; rw [if_neg (by omega), if_pos rfl]
theorem TX_2 (X x : ByteArray) : TX X x 2 = X.extract 0 (X.size - 1) := by unfold TX; rw [if_neg (by omega), if_neg (by omega)]
theorem want_new (w : World) (A B : ByteArray) : ((w.alloc (.cells #[.string A, .string B] 9)).alloc (.cells #[.int .i64 0, .int .i64 33, .int .i64 32] 44)).heap[w.heap.size + 1]? = some (.cells #[.int .i64 0, .int .i64 33, .int .i64 32] 44 (0, 0)) := by
  have := heap_alloc_new (w.alloc (.cells #[.string A, .string B] 9)) (.cells #[.int .i64 0, .int .i64 33, .int .i64 32] 44)
  simpa only [World.size_alloc] using this
theorem env_two (w : World) (X x : ByteArray) : Env ((w.alloc (.cells #[.string X, .string (X ++ ⟨#[120]⟩ ++ x)] 9)).alloc (.cells #[.int .i64 0, .int .i64 33, .int .i64 32] 44)) w.heap.size (w.heap.size + 1) 2 (TX X x) := by
  have h1 : ((w.alloc (.cells #[.string X, .string (X ++ ⟨#[120]⟩ ++ x)] 9)).alloc (.cells #[.int .i64 0, .int .i64 33, .int .i64 32] 44)).heap[w.heap.size]? = some (.cells #[.string X, .string (X ++ ⟨#[120]⟩ ++ x)] 9 (0, 0)) := heap_al (heap_alloc_new w _) _
  refine ⟨fun k hk => ?_, lt_of_block h1, _, want_new w _ _⟩
  rw [cell_in h1]
  rcases (show k = 0 ∨ k = 1 by omega) with rfl | rfl
  · rw [TX_0]; rfl
  · rw [TX_1]; rfl
theorem below_two {w0 w : World} (h : Below w0.heap.size w0 w) (a b : Obj) : Below w0.heap.size w0 ((w.alloc a).alloc b) := by
  have := h.size
  exact (h.alloc h.size _).alloc (by simp only [World.size_alloc]; omega) _
theorem own_two' (w : World) (a b : Value) (o1 o2 : Obj) : (((w.alloc (.cells #[a, b] 9)).alloc o1).alloc o2).ownsRow 0 9 1 (.slice (some ⟨w.heap.size, 0, none⟩) 2 2) 2 [a, b] := by
  have h := World.ownsRow_lit (base := 0) (e := 9) (size := 1) w #[a, b] 2 (Nat.zero_le _) (by unfold maxLen; omega) (by simp)
  exact (h.alloc _).alloc _
theorem own_two (w : World) (X x : ByteArray) : (((w.alloc (.cells #[.string X, .string (X ++ ⟨#[120]⟩ ++ x)] 9)).alloc (.cells #[.int .i64 0, .int .i64 33, .int .i64 32] 44)).alloc (.cells #[.string (X.extract 0 (X.size - 1))] 9)).ownsRow 0 9 1 (.slice (some ⟨w.heap.size, 0, none⟩) 2 2) 2 [.string X, .string (X ++ ⟨#[120]⟩ ++ x)] :=
  own_two' w _ _ _ _
theorem news_one (w : World) (X x : ByteArray) : ∀ j u, ([.string (X.extract 0 (X.size - 1))] : List Value)[j]? = some u → (((w.alloc (.cells #[.string X, .string (X ++ ⟨#[120]⟩ ++ x)] 9)).alloc (.cells #[.int .i64 0, .int .i64 33, .int .i64 32] 44)).alloc (.cells #[.string (X.extract 0 (X.size - 1))] 9)).cell? ((⟨w.heap.size + 1 + 1, 0, none⟩ : Addr).add j) = some u := by
  refine World.news_of_block (cs := #[.string (X.extract 0 (X.size - 1))]) (t := 9) (fr := (0, 0)) ?_
  have := heap_alloc_new ((w.alloc (.cells #[.string X, .string (X ++ ⟨#[120]⟩ ++ x)] 9)).alloc (.cells #[.int .i64 0, .int .i64 33, .int .i64 32] 44)) (.cells #[.string (X.extract 0 (X.size - 1))] 9)
  simpa only [World.size_alloc] using this
theorem env_three {w w5 : World} {g cap : Nat} {X x : ByteArray} (hown : w5.ownsRow 0 9 1 (.slice (some ⟨g, 0, none⟩) 3 cap) 3 [.string X, .string (X ++ ⟨#[120]⟩ ++ x), .string (X.extract 0 (X.size - 1))])
    (hgrow : (((w.alloc (.cells #[.string X, .string (X ++ ⟨#[120]⟩ ++ x)] 9)).alloc (.cells #[.int .i64 0, .int .i64 33, .int .i64 32] 44)).alloc (.cells #[.string (X.extract 0 (X.size - 1))] 9)).grownBy w5 (Value.slice (some ⟨w.heap.size, 0, none⟩) 2 2).ownBlock) (hlt : g < w5.heap.size) :
    Env w5 g (w.heap.size + 1) 3 (TX X x) := by
  refine ⟨fun k hk => ?_, hlt, _, (hgrow.block (w.heap.size + 1) (by simp only [World.size_alloc]; omega) (by simp [Value.ownBlock])).trans (heap_al (want_new w _ _) _)⟩
  have h := own_cells hown
  rcases (show k = 0 ∨ k = 1 ∨ k = 2 by omega) with rfl | rfl | rfl
  · have := h 0 _ rfl; rw [add_none] at this; rw [TX_0]; simpa using this
  · have := h 1 _ rfl; rw [add_none] at this; rw [TX_1]; simpa using this
  · have := h 2 _ rfl; rw [add_none] at this; rw [TX_2]; simpa using this
theorem below_three {w0 w w5 : World} {n : Nat} (h : Below w0.heap.size w0 w) {a b c : Obj} (hgrow : (((w.alloc a).alloc b).alloc c).grownBy w5 (Value.slice (some ⟨w.heap.size, 0, none⟩) n n).ownBlock) : Below w0.heap.size w0 w5 := by
  have := h.size
  refine ((below_two h a b).alloc (by simp only [World.size_alloc]; omega) c).grown hgrow (by simp only [World.size_alloc]; omega) fun k hk => ?_
  simp only [Value.ownBlock, Option.some.injEq] at hk
  omega

set_option maxHeartbeats 8000000 in
set_option maxRecDepth 100000 in
theorem codecBack_any (p : Option Addr) (cap : Nat) (l : List ItemD) (x : ByteArray) (hx : x.size ≤ 9223372036854775807) (w : World) (hl : l.length ≤ 9223372036854775807) (h : Items w p l) (hg : Reg w) :
    Calls Tryd.prog 4 #[.slice p l.length cap, .string x] w fun e w' => e = .returned (.bool true) ∧ Below w.heap.size w w' := by
  have H := Lib.hid h
  have Hg := Lib.hid hg
  clear h hg
  have hn0 := addV_bd (x.size : Int) 1 (by omega) (by omega)
  obtain ⟨hn00, hn01⟩ := hn0
  go_enter Tryd.func4, Tryd.ntmps4
  go_wp2_with fail
  refine (add_any (x.size : Int) 1 (by omega) (by omega) (by omega) (by omega) _).mono ?_
  rintro e w1 ⟨rfl, rfl⟩
  generalize hN0 : addV (x.size : Int) 1 = n0 at *
  have HN0 := Lib.hid hN0
  clear hN0
  go_wp2_with fail
  go_loopw [5, 6] (fun n i wr => ∃ (k : Nat) (m : Int), k ≤ l.length ∧ i = .int .i64 (k : Int) ∧ n = .int .i64 m ∧ 0 ≤ m ∧ m ≤ 2147483648 ∧ Hid (weigh l n0 = weigh (l.drop k) m) ∧ Hid (Below w.heap.size w wr)) (fun _ i _ => (l.length - intOf i).toNat)
  case atStart => exact ⟨0, n0, by omega, rfl, rfl, hn00, hn01, Lib.hid rfl, Lib.hid (Below.refl _ _)⟩
  case round =>
    obtain ⟨k, m, hk, rfl, rfl, hm0, hm1, Hv, Hb⟩ := hrel
    have hcase : (k < l.length ∧ m ≤ 2147483647) ∨ (¬ (k < l.length ∧ m ≤ 2147483647)) := Decidable.em _
    rcases hcase with ⟨hlt, hmm⟩ | hend
    · have hlt' : (k : Int) < (l.length : Int) := by omega
      obtain ⟨hok, b, off, rfl, hat⟩ := H.out k l[k] (List.getElem?_eq_getElem hlt)
      have Hget : Hid (l[k]? = some l[k]) := Lib.hid (List.getElem?_eq_getElem hlt)
      generalize l[k] = o at *
      have hs1 := hok.s
      have hs2 : (0 : Int) ≤ (o.s.size : Int) := by omega
      have hc3 : wr.cell? ⟨b, off + k * 4 + 3, none⟩ = some (.string o.s) := (Hb.out.cell (p := ⟨b, off + k * 4 + 3, none⟩) hat.lt).trans hat.c3
      have hbd := addV_bd m 100 hm0 (by omega)
      have hbd2 := addV_bd (o.s.size : Int) (o.s.size : Int) hs2 hs2
      obtain ⟨hb1, hb2⟩ := hbd
      obtain ⟨hb3, hb4⟩ := hbd2
      have hbd3 := addV_bd (addV m 100) (addV (o.s.size : Int) (o.s.size : Int)) hb1 hb3
      obtain ⟨hb5, hb6⟩ := hbd3
      have Hnext : Hid (weigh l n0 = weigh (l.drop (k + 1)) (addV (addV m 100) (addV (o.s.size : Int) (o.s.size : Int)))) := Lib.hid (by
        rw [Hv.out, drop_cons Hget.out, weigh, if_pos hmm])
      clear hok hat
      go_wp2_with fail
      go_quiet ((go_at_call 18; exact Calls.quiet_of_same (add_any' _ _ (by omega) (by omega) (by omega) (by omega) _)))
      go_wp2_with fail
      go_roundw
      case rel => exact ⟨k + 1, _, by omega, by go_num, rfl, hb5, hb6, Hnext, Lib.hid ⟨Hb.out.os, Hb.out.tape, Hb.out.output, Hb.out.size, Hb.out.block⟩⟩
      case measure => simp [intOf]; omega
    · have HV : Hid (weigh l n0 = m) := Lib.hid (by
        rw [Hv.out]
        by_cases hlt : k < l.length
        · rw [drop_cons (List.getElem?_eq_getElem hlt), weigh, if_neg fun h => hend ⟨hlt, h⟩]
        · rw [List.drop_of_length_le (by omega)]; rfl)
      by_cases hmb : m > 2147483647
      · clear hend
        by_cases hlt : k < l.length
        · have hd : decide ((k : Int) < (l.length : Int)) = true := by simp; omega
          go_wp2_with fail
          go_ret
          exact ⟨rfl, Hb.out⟩
        · have hd : decide ((k : Int) < (l.length : Int)) = false := by simp; omega
          go_wp2_with fail
          go_ret
          exact ⟨rfl, Hb.out⟩
      have hkl : ¬ k < l.length := fun h => hend ⟨h, by omega⟩
      have hge : (l.length : Int) ≤ (k : Int) := by omega
      have hd : decide ((k : Int) < (l.length : Int)) = false := by simp; omega
      have hwt : iw l + x.size + 1 ≤ 2147483647 := by
        have h1 := weigh_iw l n0.toNat (fun o ho => by obtain ⟨i, hi⟩ := List.getElem?_of_mem ho; exact (H.out i o hi).1.s) (by rw [Int.toNat_of_nonneg hn00, HV.out]; omega)
        have h2 := HN0.out
        unfold addV at h2
        split at h2 <;> omega
      have hll := laid_len l
      have HL1 : Hid (∀ i, i ≤ l.length → (laid (l.take i)).length + (laid (l.drop i)).length = (laid l).length) := Lib.hid (fun i _ => by
        rw [← List.length_append]
        congr 1
        rw [← laid_app, List.take_append_drop])
      clear hend hkl hm0 hm1 hn00 hn01
      go_wp2_with fail
      refine (awake_any _ (Hg.out.below Hb.out)).mono ?_
      rintro e w2 ⟨rfl, hb⟩
      have HB2 := Lib.hid (Hb.out.trans (hb.mono Hb.out.size))
      clear hb
      go_wp2_with fail
      refine (NewWriter_any 2147483647 _).mono ?_
      rintro e w3 ⟨rfl, hn, hb⟩
      have HW3 : Hid (WrAt w2 w3 w2.heap.size ⟨[], 2147483647, 0⟩) := Lib.hid ⟨_, hn, by simp, hb⟩
      clear hn hb
      go_wp2_with fail
      obtain ⟨wo, hwo⟩ : ∃ wo : World, wo = wr := ⟨_, rfl⟩
      clear hwo
      go_loopw [9] (fun i wr => ∃ k : Nat, k ≤ l.length ∧ i = .int .i64 (k : Int) ∧ Hid (WrAt w2 wr w2.heap.size ⟨laid (l.take k), 2147483647, 0⟩)) (fun i _ => (l.length - intOf i).toNat)
      case atStart => exact ⟨0, by omega, rfl, HW3⟩
      case round =>
        obtain ⟨k, hk, rfl, HWr⟩ := hrel
        have HBr := Lib.hid (HB2.out.trans (HWr.out.bel.mono HB2.out.size))
        by_cases hlt : k < l.length
        · have hlt' : (k : Int) < (l.length : Int) := by omega
          obtain ⟨hok, b, off, rfl, hat⟩ := H.out k l[k] (List.getElem?_eq_getElem hlt)
          have Hget : Hid (l[k]? = some l[k]) := Lib.hid (List.getElem?_eq_getElem hlt)
          have hln := HL1.out k (by omega)
          have hdr : l.drop k = l[k] :: l.drop (k + 1) := drop_cons (List.getElem?_eq_getElem hlt)
          rw [hdr, laid_cons, List.length_append] at hln
          have htk : laid (l.take (k + 1)) = laid (l.take k) ++ (l[k]).row := by rw [List.take_succ_eq_append_getElem hlt, laid_app, laid_one]
          have HTK := Lib.hid htk
          have hrow := row_len l[k]
          clear hdr htk
          generalize l[k] = o at *
          have hfit : (laid (l.take k)).length + o.row.length ≤ 2147483647 := by omega
          have HLI := Lib.hid (lay_item (laid (l.take k)) o hfit)
          have hat' := hat.below HBr.out
          have hc0 := hat'.c0
          have hc1 := hat'.c1
          have hc3 := hat'.c3
          have ht := textB_le o.s
          obtain ⟨ht1, ht2⟩ := ht
          have hnv := numV_bd o.n
          obtain ⟨hnv1, hnv2⟩ := hnv
          have Hok := Lib.hid hok
          obtain ⟨S, d1, dB, db⟩ := HWr.out
          have D1 := Lib.hid d1
          have DB := Lib.hid dB
          have Db := Lib.hid db
          have HLen : Hid ((laid (l.take k)).length ≤ 2147483647) := Lib.hid (by omega)
          clear hok hat hat' d1 dB db hln hrow hfit
          obtain ⟨tx, n, more, s⟩ := o
          simp only at hc0 hc1 hc3 ht1 ht2 hnv1 hnv2
          cases tx with
          | true =>
            go_wp2_with fail
            refine (text_any s Hok.out.s _).mono ?_
            rintro e w4 ⟨rfl, rfl⟩
            go_wp2_with fail
            refine (Text_any _ (textB s) _ S _ (by omega) D1.out (by show (2147483647 : Nat) ≤ _; decide) (by show (laid (l.take k)).length ≤ 2147483647; have := HLen.out; omega) (by show (laid (l.take k)).length + 9 + _ ≤ _; have := HLen.out; omega)).mono ?_
            rintro e w5 ⟨rfl, hM⟩
            have HW5 : Hid (WrAt w2 w5 w2.heap.size ⟨laid (l.take (k + 1)), 2147483647, 0⟩) := Lib.hid (by
              have h1 := HLI.out
              simp only [if_true] at h1
              rw [h1] at hM
              rw [HTK.out]
              exact WrAt.step DB.out Db.out hM)
            clear hM hc0 hc1 hc3
            go_wp2_with fail
            go_roundw
            case rel => exact ⟨k + 1, by omega, by go_num, HW5⟩
            case measure => simp [intOf]; omega
          | false =>
            go_wp2_with fail
            refine (number_any n Hok.out.n1 Hok.out.n2 _).mono ?_
            rintro e w4 ⟨rfl, rfl⟩
            go_wp2_with fail
            refine (Num_any _ (numV n) (by omega) _ S _ D1.out (by show (2147483647 : Nat) ≤ _; decide) (by show (laid (l.take k)).length ≤ 2147483647; have := HLen.out; omega) (by show (laid (l.take k)).length + 9 ≤ _; have := HLen.out; omega)).mono ?_
            rintro e w5 ⟨rfl, hM⟩
            have HW5 : Hid (WrAt w2 w5 w2.heap.size ⟨laid (l.take (k + 1)), 2147483647, 0⟩) := Lib.hid (by
              have h1 := HLI.out
              simp only [Bool.false_eq_true, if_false] at h1
              rw [h1] at hM
              rw [HTK.out]
              exact WrAt.step DB.out Db.out hM)
            clear hM hc0 hc1 hc3
            go_wp2_with fail
            go_roundw
            case rel => exact ⟨k + 1, by omega, by go_num, HW5⟩
            case measure => simp [intOf]; omega
        · have hd : decide ((k : Int) < (l.length : Int)) = false := by simp; omega
          have hke : l.take k = l := List.take_of_length_le (by omega)
          rw [hke] at HWr
          have hge : (l.length : Int) ≤ (k : Int) := by omega
          have hdN : decide (k < l.length) = false := by simp; omega
          clear hke hlt
          obtain ⟨S, d1, dB, db⟩ := HWr.out
          have D1 := Lib.hid d1
          clear d1 dB db
          go_wp2_with fail
          refine (Done_any _ _ S _ (Hg.out.below HBr.out) D1.out).mono ?_
          rintro e w4 ⟨rfl, hb⟩
          have HB4 := Lib.hid (HBr.out.trans (hb.mono HBr.out.size))
          clear hb
          rw [show (⟨laid l, 2147483647, 0⟩ : Wst).done = (laid l, 0) from rfl]
          simp only
          obtain ⟨X, hX⟩ : ∃ X : ByteArray, X = ⟨(laid l).toArray⟩ := ⟨_, rfl⟩
          have hXl : X.data.toList = laid l := by rw [hX]
          have hXs : X.size = (laid l).length := by rw [hX]; rfl
          have hXs2 : X.size ≤ 2147483647 := by omega
          rw [← hX]
          have HXl := Lib.hid hXl
          have HXs := Lib.hid hXs
          clear hX hXl hXs HWr D1
          obtain ⟨i1, si, sz0, sz1, sz2⟩ := info_parts infoStr
          by_cases hnil : l = []
          · have hX0 : X.data.toList = [] := by rw [HXl.out, hnil]; rfl
            have e1 := toList_nil hX0
            have e2 : X.toList.isEmpty = true := by rw [e1]; rfl
            have HNil := Lib.hid hnil
            clear hX0 hnil
            go_wp2_with fail
            obtain ⟨wE, hE⟩ : ∃ wE, wE = (w4.alloc (.cells #[.string X, .string (X ++ ⟨#[120]⟩ ++ x)] 9)).alloc (.cells #[.int .i64 0, .int .i64 33, .int .i64 32] 44) := ⟨_, rfl⟩
            have HE : Hid (Env wE w4.heap.size (w4.heap.size + 1) 2 (TX X x)) := Lib.hid (by rw [hE]; exact env_two w4 X x)
            have HBE : Hid (Below w.heap.size w wE) := Lib.hid (by rw [hE]; exact below_two HB4.out _ _)
            rw [← hE]
            clear hE
            obtain ⟨wo', hwo'⟩ : ∃ wo' : World, wo' = wr := ⟨_, rfl⟩
            clear hwo'
            go_loopw [14] (fun i wr => ∃ k : Nat, k ≤ 2 ∧ i = .int .i64 (k : Int) ∧ Hid (Env wr w4.heap.size (w4.heap.size + 1) 2 (TX X x)) ∧ Hid (Below w.heap.size w wr)) (fun i _ => (2 - intOf i).toNat)
            case atStart => exact ⟨0, by omega, rfl, HE, HBE⟩
            case round =>
              obtain ⟨k1, hk1, rfl, HEr, HBr1⟩ := hrel
              by_cases hlt1 : k1 < 2
              · have hlt1' : (k1 : Int) < 2 := by omega
                have hct := HEr.out.tx k1 hlt1
                go_wp2_with fail
                refine (NewReader_any (TX X x k1) _).mono ?_
                rintro e w6 ⟨rfl, hn, hb⟩
                have HR6 : Hid (RdAt wr w6 wr.heap.size ⟨(TX X x k1).data.toList, 0⟩) := Lib.hid ⟨_, hn, by simp, hb⟩
                have HS0 : Hid (St l x.data.toList k1 0 ⟨(TX X x k1).data.toList, 0⟩) := Lib.hid (St.start HXl.out k1 (fun h2 => by omega))
                clear hn hb hct
                go_wp2_with fail
                obtain ⟨wq0, hwq0⟩ : ∃ wq0 : World, wq0 = wr := ⟨_, rfl⟩
                have HEr' : Hid (Env wq0 w4.heap.size (w4.heap.size + 1) 2 (TX X x)) := by rw [hwq0]; exact HEr
                have HBr1' : Hid (Below w.heap.size w wq0) := by rw [hwq0]; exact HBr1
                have HR6' : Hid (RdAt wq0 w6 wq0.heap.size ⟨(TX X x k1).data.toList, 0⟩) := by rw [hwq0]; exact HR6
                rw [← hwq0]
                clear HEr HBr1 HR6 hwq0
                go_loopw [16] (fun j wq => ∃ (i : Nat) (r : Rst), i ≤ l.length ∧ j = .int .i64 (i : Int) ∧ Hid (RdAt wq0 wq wq0.heap.size r) ∧ Hid (St l x.data.toList k1 i r)) (fun j _ => (l.length - intOf j).toNat)
                case atStart => exact ⟨0, _, by omega, rfl, HR6', HS0⟩
                case round =>
                  obtain ⟨i, r, hi, rfl, HRr, HSr⟩ := hrel
                  have HBq := Lib.hid (HBr1'.out.trans (HRr.out.bel.mono HBr1'.out.size))
                  by_cases hlt : i < l.length
                  · have hlt' : (i : Int) < (l.length : Int) := by omega
                    obtain ⟨hok, b, off, rfl, hat⟩ := H.out i l[i] (List.getElem?_eq_getElem hlt)
                    have Hget : Hid (l[i]? = some l[i]) := Lib.hid (List.getElem?_eq_getElem hlt)
                    generalize l[i] = o at *
                    have hat' := hat.below HBq.out
                    have hc0 := hat'.c0
                    have hc1 := hat'.c1
                    have hc2 := hat'.c2
                    have hc3 := hat'.c3
                    have Hok := Lib.hid hok
                    have hxd : x.data.toList.length = x.size := by simp
                    have HRest := Lib.hid (HSr.out.rest (by omega) hlt (by rw [hxd]; omega))
                    obtain ⟨S, d1, dB, db⟩ := HRr.out
                    have D1 := Lib.hid d1
                    have DB := Lib.hid dB
                    have Db := Lib.hid db
                    clear hok hat hat' d1 dB db hxd
                    go_wp2_with fail
                    refine (gets_any r o _ S _ Hok.out HRest.out D1.out).mono ?_
                    rintro e w7 ⟨is, rfl, hT, hM⟩
                    have HR7 := Lib.hid (RdAt.step DB.out Db.out hM)
                    obtain ⟨hs1, hs2⟩ := HSr.out.step Hget.out
                    have HS7 := Lib.hid hs1
                    have HT : Hid (k1 < 2 → is = true) := Lib.hid (fun h => hT (hs2 h))
                    clear hT hM hs1 hs2 hc0 hc1 hc2 hc3
                    cases is with
                    | true =>
                      go_wp2_with fail
                      go_roundw
                      case rel => exact ⟨i + 1, _, by omega, by go_num, HR7, HS7⟩
                      case measure => simp [intOf]; omega
                    | false => exact absurd (HT.out hlt1) (by decide)
                  · obtain rfl : i = l.length := by omega
                    have HEnd := Lib.hid HSr.out.end_
                    have HReg : Hid (Reg wr) := Lib.hid (Hg.out.below HBq.out)
                    have HEq := Lib.hid (HEr'.out.below HRr.out.bel)
                    obtain ⟨tw, hw⟩ := HEq.out.want
                    have hcw0 := cell_in (o := 0) hw
                    have hcw1 := cell_in (o := 1) hw
                    have hcw2 := cell_in (o := 2) hw
                    simp only [List.getElem?_toArray, List.getElem?_cons_succ, List.getElem?_cons_zero] at hcw0 hcw1 hcw2
                    clear hw
                    rcases (show k1 = 0 ∨ k1 = 1 by omega) with rfl | rfl
                    · have HDn : Hid (r.done = 0) := Lib.hid (HEnd.out.1 rfl)
                      have HE0 : Hid (r.err = 0) := Lib.hid (HSr.out.end0 (by omega))
                      have hb1 : ((0 : Int) == 2) = false := rfl
                      rw [show ((0 : Nat) : Int) = 0 from rfl]
                      go_wp2_with fail
                      go_quiet ((go_at_call 26; exact Calls.quiet_of_same (done_ok HRr.out HE0.out HDn.out _)))
                      go_wp2_with fail
                      go_roundw
                      case rel => exact ⟨1, by omega, rfl, Lib.hid (HEq.out.below ⟨rfl, rfl, rfl, Nat.le_refl _, fun _ _ => rfl⟩), Lib.hid (HBq.out.trans ⟨rfl, rfl, rfl, Nat.le_refl _, fun _ _ => rfl⟩)⟩
                      case measure => simp [intOf]
                    · have HDn : Hid (r.done = 33) := Lib.hid (HEnd.out.2.1 rfl)
                      have HE0 : Hid (r.err = 0) := Lib.hid (HSr.out.end0 (by omega))
                      have hb1 : ((1 : Int) == 2) = false := rfl
                      rw [show ((1 : Nat) : Int) = 1 from rfl]
                      go_wp2_with fail
                      go_quiet ((go_at_call 26; exact Calls.quiet_of_same (done_ok HRr.out HE0.out HDn.out _)))
                      go_wp2_with fail
                      go_roundw
                      case rel => exact ⟨2, by omega, rfl, Lib.hid (HEq.out.below ⟨rfl, rfl, rfl, Nat.le_refl _, fun _ _ => rfl⟩), Lib.hid (HBq.out.trans ⟨rfl, rfl, rfl, Nat.le_refl _, fun _ _ => rfl⟩)⟩
                      case measure => simp [intOf]
              · obtain rfl : k1 = 2 := by omega
                rw [show ((2 : Nat) : Int) = 2 from rfl]
                go_wp2_with fail
                go_ret
                exact ⟨rfl, HBr1.out⟩
          · have hX1 : 1 ≤ X.size := by rw [HXs.out]; exact laid_ne hnil
            have e0 : X.data.toList ≠ [] := by
              intro h
              have h2 : X.data.toList.length = X.size := by simp
              rw [h] at h2
              simp only [List.length_nil] at h2
              omega
            have e1 := toList_ne (p := X) e0
            clear e0
            have e2 : X.toList ≠ [] := by intro h; rw [h] at e1; cases e1
            have HNil := Lib.hid hnil
            clear hnil
            go_wp2_with (at_builtin; go_must (refine wpList_append_lies _ rfl (.tmp 100) (.tmp 106) 47 rfl 0 9 i1 _ 1 16 Tryd.underlying47 si sz0 sz1 sz2 rfl (by decide) _ 2 [.string X, .string (X ++ ⟨#[120]⟩ ++ x)] (by rfl) ?c1 ⟨w4.heap.size + 1 + 1, 0, none⟩ 1 1 [.string (X.extract 0 (X.size - 1))] (by rfl) (by rfl) ?c2 (by simp [Value.oneCell']) (by omega) (by unfold maxLen; omega) (by omega) (by omega) _ rfl ?_))
            case c1 => exact own_two w4 X x
            case c2 => exact news_one w4 X x
            intro g' cap' w5 hown1 hgrow hat hlt1
            have HE : Hid (Env w5 g' (w4.heap.size + 1) 3 (TX X x)) := Lib.hid (env_three hown1 hgrow hlt1)
            have HBE : Hid (Below w.heap.size w w5) := Lib.hid (below_three HB4.out hgrow)
            clear hown1 hgrow hat
            go_wp2_with fail
            obtain ⟨wo', hwo'⟩ : ∃ wo' : World, wo' = wr := ⟨_, rfl⟩
            clear hwo'
            go_loopw [14] (fun i wr => ∃ k : Nat, k ≤ 3 ∧ i = .int .i64 (k : Int) ∧ Hid (Env wr g' (w4.heap.size + 1) 3 (TX X x)) ∧ Hid (Below w.heap.size w wr)) (fun i _ => (3 - intOf i).toNat)
            case atStart => exact ⟨0, by omega, rfl, HE, HBE⟩
            case round =>
              obtain ⟨k1, hk1, rfl, HEr, HBr1⟩ := hrel
              by_cases hlt1 : k1 < 3
              · have hlt1' : (k1 : Int) < 3 := by omega
                have hct := HEr.out.tx k1 hlt1
                go_wp2_with fail
                refine (NewReader_any (TX X x k1) _).mono ?_
                rintro e w6 ⟨rfl, hn, hb⟩
                have HR6 : Hid (RdAt wr w6 wr.heap.size ⟨(TX X x k1).data.toList, 0⟩) := Lib.hid ⟨_, hn, by simp, hb⟩
                have HS0 : Hid (St l x.data.toList k1 0 ⟨(TX X x k1).data.toList, 0⟩) := Lib.hid (St.start HXl.out k1 (fun h2 => HNil.out))
                clear hn hb hct
                go_wp2_with fail
                obtain ⟨wq0, hwq0⟩ : ∃ wq0 : World, wq0 = wr := ⟨_, rfl⟩
                have HEr' : Hid (Env wq0 g' (w4.heap.size + 1) 3 (TX X x)) := by rw [hwq0]; exact HEr
                have HBr1' : Hid (Below w.heap.size w wq0) := by rw [hwq0]; exact HBr1
                have HR6' : Hid (RdAt wq0 w6 wq0.heap.size ⟨(TX X x k1).data.toList, 0⟩) := by rw [hwq0]; exact HR6
                rw [← hwq0]
                clear HEr HBr1 HR6 hwq0
                go_loopw [16] (fun j wq => ∃ (i : Nat) (r : Rst), i ≤ l.length ∧ j = .int .i64 (i : Int) ∧ Hid (RdAt wq0 wq wq0.heap.size r) ∧ Hid (St l x.data.toList k1 i r)) (fun j _ => (l.length - intOf j).toNat)
                case atStart => exact ⟨0, _, by omega, rfl, HR6', HS0⟩
                case round =>
                  obtain ⟨i, r, hi, rfl, HRr, HSr⟩ := hrel
                  have HBq := Lib.hid (HBr1'.out.trans (HRr.out.bel.mono HBr1'.out.size))
                  by_cases hlt : i < l.length
                  · have hlt' : (i : Int) < (l.length : Int) := by omega
                    obtain ⟨hok, b, off, rfl, hat⟩ := H.out i l[i] (List.getElem?_eq_getElem hlt)
                    have Hget : Hid (l[i]? = some l[i]) := Lib.hid (List.getElem?_eq_getElem hlt)
                    generalize l[i] = o at *
                    have hat' := hat.below HBq.out
                    have hc0 := hat'.c0
                    have hc1 := hat'.c1
                    have hc2 := hat'.c2
                    have hc3 := hat'.c3
                    have Hok := Lib.hid hok
                    have hxd : x.data.toList.length = x.size := by simp
                    have HRest := Lib.hid (HSr.out.rest (by omega) hlt (by rw [hxd]; omega))
                    obtain ⟨S, d1, dB, db⟩ := HRr.out
                    have D1 := Lib.hid d1
                    have DB := Lib.hid dB
                    have Db := Lib.hid db
                    clear hok hat hat' d1 dB db hxd
                    go_wp2_with fail
                    refine (gets_any r o _ S _ Hok.out HRest.out D1.out).mono ?_
                    rintro e w7 ⟨is, rfl, hT, hM⟩
                    have HR7 := Lib.hid (RdAt.step DB.out Db.out hM)
                    obtain ⟨hs1, hs2⟩ := HSr.out.step Hget.out
                    have HS7 := Lib.hid hs1
                    have HT : Hid (k1 < 2 → is = true) := Lib.hid (fun h => hT (hs2 h))
                    clear hT hM hs1 hs2 hc0 hc1 hc2 hc3
                    cases is with
                    | true =>
                      go_wp2_with fail
                      go_roundw
                      case rel => exact ⟨i + 1, _, by omega, by go_num, HR7, HS7⟩
                      case measure => simp [intOf]; omega
                    | false =>
                      have hk2 : (2 : Int) ≤ (k1 : Int) := by
                        rcases Nat.lt_or_ge k1 2 with h | h
                        · exact absurd (HT.out h) (by decide)
                        · omega
                      have hk2' : decide ((k1 : Int) < 2) = false := by simp; omega
                      go_wp2_with fail
                      go_roundw
                      case rel => exact ⟨i + 1, _, by omega, by go_num, HR7, HS7⟩
                      case measure => simp [intOf]; omega
                  · obtain rfl : i = l.length := by omega
                    have HEnd := Lib.hid HSr.out.end_
                    have HReg : Hid (Reg wr) := Lib.hid (Hg.out.below HBq.out)
                    have HEq := Lib.hid (HEr'.out.below HRr.out.bel)
                    obtain ⟨tw, hw⟩ := HEq.out.want
                    have hcw0 := cell_in (o := 0) hw
                    have hcw1 := cell_in (o := 1) hw
                    have hcw2 := cell_in (o := 2) hw
                    simp only [List.getElem?_toArray, List.getElem?_cons_succ, List.getElem?_cons_zero] at hcw0 hcw1 hcw2
                    clear hw
                    rcases (show k1 = 0 ∨ k1 = 1 ∨ k1 = 2 by omega) with rfl | rfl | rfl
                    · have HDn : Hid (r.done = 0) := Lib.hid (HEnd.out.1 rfl)
                      have HE0 : Hid (r.err = 0) := Lib.hid (HSr.out.end0 (by omega))
                      have hb1 : ((0 : Int) == 2) = false := rfl
                      rw [show ((0 : Nat) : Int) = 0 from rfl]
                      go_wp2_with fail
                      go_quiet ((go_at_call 26; exact Calls.quiet_of_same (done_ok HRr.out HE0.out HDn.out _)))
                      go_wp2_with fail
                      go_roundw
                      case rel => exact ⟨1, by omega, rfl, Lib.hid (HEq.out.below ⟨rfl, rfl, rfl, Nat.le_refl _, fun _ _ => rfl⟩), Lib.hid (HBq.out.trans ⟨rfl, rfl, rfl, Nat.le_refl _, fun _ _ => rfl⟩)⟩
                      case measure => simp [intOf]
                    · have HDn : Hid (r.done = 33) := Lib.hid (HEnd.out.2.1 rfl)
                      have HE0 : Hid (r.err = 0) := Lib.hid (HSr.out.end0 (by omega))
                      have hb1 : ((1 : Int) == 2) = false := rfl
                      rw [show ((1 : Nat) : Int) = 1 from rfl]
                      go_wp2_with fail
                      go_quiet ((go_at_call 26; exact Calls.quiet_of_same (done_ok HRr.out HE0.out HDn.out _)))
                      go_wp2_with fail
                      go_roundw
                      case rel => exact ⟨2, by omega, rfl, Lib.hid (HEq.out.below ⟨rfl, rfl, rfl, Nat.le_refl _, fun _ _ => rfl⟩), Lib.hid (HBq.out.trans ⟨rfl, rfl, rfl, Nat.le_refl _, fun _ _ => rfl⟩)⟩
                      case measure => simp [intOf]
                    · have HDn : Hid (r.done = 32) := Lib.hid (HEnd.out.2.2 rfl).1
                      have HLf : Hid (r.left = 0) := Lib.hid (HEnd.out.2.2 rfl).2
                      have hSt : wr.cell? ⟨w4.heap.size + 1, 2, none⟩ = some (.int .i64 32) ∧ Hid (RdAt wq0 wr wq0.heap.size r ∧ Reg wr) := ⟨hcw2, Lib.hid ⟨HRr.out, HReg.out⟩⟩
                      clear hcw0 hcw1 hcw2
                      rw [show ((2 : Nat) : Int) = 2 from rfl]
                      go_wp2_with fail
                      go_region_held3 (fun w' => w'.cell? ⟨w4.heap.size + 1, 2, none⟩ = some (.int .i64 32) ∧ Hid (RdAt wq0 w' wq0.heap.size r ∧ Reg w'))
                        (first | assumption | exact held_drew (by assumption))
                        (first | (go_at_call 26; refine (done_c HDn.out (by assumption)).mono ?_; rintro e w' ⟨rfl, hb⟩; have hS' := held_call (by assumption) hb; clear hb) | (go_at_call 27; refine (left_c HLf.out (by assumption)).mono ?_; rintro e w' ⟨rfl, rfl⟩))
                      all_goals
                        rename_i hH
                        obtain ⟨_, HRZ⟩ := hH
                        go_wp2_with fail
                        go_roundw
                        case rel => exact ⟨3, by omega, rfl, HEr'.out.below HRZ.out.1.bel, Lib.hid (HBr1'.out.trans (HRZ.out.1.bel.mono HBr1'.out.size))⟩
                        case measure => simp [intOf]
              · obtain rfl : k1 = 3 := by omega
                rw [show ((3 : Nat) : Int) = 3 from rfl]
                go_wp2_with fail
                go_ret
                exact ⟨rfl, HBr1.out⟩
end Go.Proofs.YtmijkaejdgmplaaDoor.co
