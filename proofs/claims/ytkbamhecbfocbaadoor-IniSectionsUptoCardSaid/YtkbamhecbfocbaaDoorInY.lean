/- ini.Parse returns the plain function. Conditions: the text is in Go's bounds; the tables hold what the text lays. -/
import Derived.Test.YtkbamhecbfocbaaDoorInX
import Derived.Test.YtkbamhecbfocbaaDoorInZ
import Derived.Carry
namespace Go.Proofs.YtkbamhecbfocbaaDoor.ini
open Go.ChangeShapes Go.WideShapes Go.ChangeAt Go.RowKit gl
open Go.Maps

theorem sec_len {r a : List UInt8} (h : secL r = some a) : a.length ≤ r.length := by
  unfold secL at h
  split at h
  · rename_i h1
    split at h
    · cases h; simp
    · split at h
      · cases h
        have : r ≠ [] := by rintro rfl; simp at h1
        have := List.length_pos_iff.2 this
        simp
        omega
      · cases h
  · cases h
theorem line_len {a a' s : List UInt8} {out : List Ln} {o : Option (List UInt8 × List UInt8)} (h : lineL a out s = some (a', o)) (ha : a.length ≤ 8001) (hs : s.length ≤ 8000) : a'.length ≤ 8001 := by
  have htl := tri_len s
  cases htx : tri s with
  | nil => rw [lineT_nil htx] at h; cases h; exact ha
  | cons c r =>
    rw [htx] at htl
    simp only [List.length_cons] at htl
    unfold lineL at h
    rw [htx, lineT_cons] at h
    split at h
    · cases h; exact ha
    · split at h
      · rw [Option.map_eq_some_iff] at h
        obtain ⟨x, hx, he⟩ := h
        cases he
        have := sec_len hx
        omega
      · rw [Option.map_eq_some_iff] at h
        obtain ⟨x, hx, he⟩ := h
        cases he
        exact ha

/-! ### Split, its block -/
theorem split_blk (sep : UInt8) (s : ByteArray) (hs : s.size ≤ 2147483647) (w : World) (hG : Glo w) :
    Calls Tryd.prog 48 #[.string s, .string ⟨#[sep]⟩] w fun e w' => ∃ ps : List ByteArray, ps.map (·.data.toList) = pcs sep s.data.toList ∧
      e = .returned (.slice (some ⟨w.heap.size, 0, none⟩) ps.length ps.length) ∧ w' = w.alloc (.cells (ps.map Value.string).toArray 9) := by
  obtain ⟨m, hm⟩ := hG.maxLen
  refine (Tryd.strings_Split s ⟨#[sep]⟩ m w (by omega) hm (by simp [ByteArray.size])).mono ?_
  rintro e w' ⟨he, rfl⟩
  have hl : (Lib.splitB ⟨#[sep]⟩ 0 (Lib.countB s ⟨#[sep]⟩) s).length = Lib.countB s ⟨#[sep]⟩ + 1 := Lib.splitB_all _ (by simp [ByteArray.size]) 0 _ s rfl
  exact ⟨_, splitB_pcs sep s, by rw [he, hl], rfl⟩

theorem parse_big {l : List UInt8} (h : ¬ l.length ≤ 8000) : parseL l = ([], 61, 0) := by unfold parseL; rw [if_neg h]
theorem parse_run {l : List UInt8} (h : l.length ≤ 8000) : parseL l = runL 0 [] [] (pcs 10 l) := by unfold parseL; rw [if_pos h]

theorem NewLns.kept {M : Nat} {w w' : World} {v : Value} {l : List Ln} (h : NewLns M w v l) (hk : ls.SK 35 w w') : NewLns M w' v l := by
  rcases h with h | ⟨g, c, cs, rfl, hc, hg, hbk, h2⟩
  · exact .inl h
  · exact .inr ⟨g, c, cs, rfl, hc, hg, hk g cs hbk, h2⟩
theorem two_cells {w wa w9 : World} {b : Nat} {x y x' y' : Value} {t t' : TypeId} (h0 : wa.heap[b]? = some (.cells #[x] t (0, 0))) (h1 : wa.heap[b + 1]? = some (.cells #[y] t' (0, 0))) (hb : Below w.heap.size w wa) (hz : b ≤ w.heap.size) (h9 : (wa.setCell ⟨b, 0, none⟩ x').setCell ⟨b + 1, 0, none⟩ y' = w9) :
    w9.cell? ⟨b, 0, none⟩ = some x' ∧ w9.cell? ⟨b + 1, 0, none⟩ = some y' ∧ Below b w w9 := by
  subst h9
  have k0 := heap_set (o := 0) h0 x'
  have k1 := heap_set_ne h1 (p := ⟨b, 0, none⟩) x' (by show b + 1 ≠ b; omega)
  have k2 := heap_set_ne k0 (p := ⟨b + 1, 0, none⟩) y' (by show b ≠ b + 1; omega)
  have k3 := heap_set (o := 0) k1 y'
  refine ⟨by rw [cell_in k2]; rfl, by rw [cell_in k3]; rfl, ?_⟩
  exact ((hb.mono hz).setCell (p := ⟨b, 0, none⟩) (Nat.le_refl _) _).setCell (p := ⟨b + 1, 0, none⟩) (by show b ≤ b + 1; omega) _
theorem run_end {k : Nat} {a : List UInt8} {out : List Ln} : runL k a out [] = (out, 0, 0) := rfl
set_option maxHeartbeats 4000000 in
set_option maxRecDepth 100000 in
theorem parse_any (s : ByteArray) (hs : s.size ≤ 9223372036854775807) (w : World) (hG : Glo w) :
    Calls Tryd.prog 19 #[.string s] w fun e w' => POut (parseL s.data.toList) w e w' ∧ Below w.heap.size w w' := by
  have hmf : ∀ (fn : Fn) (first cap : Array Value) (w : World), (Instr.makeFunc fn first cap).run Tryd.prog w = .ok (.func fn first cap) w := fun _ _ _ _ => rfl
  have hmm := @run_makeMap Tryd.prog
  by_cases hbig : 8000 < s.size
  · have Hr := Lib.hid (parse_big (l := s.data.toList) (by rw [toList_len]; omega))
    have hb2 : (8000 : Int) < (s.size : Int) := by omega
    go_enter_defers Tryd.func19, Tryd.ntmps19
    go_wp2_with fail
    rw [Hr.out]
    simp [bodyPostD, Leaves, results, Tryd.results19, go_sem]
    exact ⟨⟨_, rfl, .inl ⟨rfl, rfl⟩⟩, ((Below.refl _ _).alloc (Nat.le_refl _) _).alloc (by simp) _⟩
  · have hb2 : ¬ (8000 : Int) < (s.size : Int) := by omega
    have hs8 : s.size ≤ 8000 := by omega
    have HG := Lib.hid hG
    have Hpr := Lib.hid (parse_run (l := s.data.toList) (by rw [toList_len]; omega))
    obtain ⟨b, hb⟩ : ∃ b, b = w.heap.size := ⟨_, rfl⟩
    obtain ⟨wA, hwA⟩ : ∃ wA, wA = (w.alloc (.cells #[.slice none 0 0] 27)).alloc (.cells #[.int .i64 0] 29) := ⟨_, rfl⟩
    have hzA : wA.heap.size = b + 2 := by rw [hwA, hb]; simp
    have hbA : Below b w wA := by rw [hwA, hb]; exact ((Below.refl _ _).alloc (Nat.le_refl _) _).alloc (by simp) _
    have hA0 : wA.heap[b]? = some (.cells #[.slice none 0 0] 27 (0, 0)) := by rw [hwA, hb]; exact heap_al (heap_alloc_new w _) _
    have hA1 : wA.heap[b + 1]? = some (.cells #[.int .i64 0] 29 (0, 0)) := by
      have h := heap_alloc_new (w.alloc (.cells #[.slice none 0 0] 27)) (.cells #[.int .i64 0] 29)
      rw [World.size_alloc] at h
      rw [hwA, hb]; exact h
    obtain ⟨w2, hw2⟩ : ∃ w2, w2 = (wA.alloc (.map #[] 0)).alloc (.cells #[.string ⟨#[]⟩, .slice none 0 0, .map (some (b + 2))] 73) := ⟨_, rfl⟩
    have hz2 : w2.heap.size = b + 4 := by rw [hw2]; simp [hzA]
    have hb2' : Below (b + 2) wA w2 := by rw [hw2, ← hzA]; exact ((Below.refl _ _).alloc (Nat.le_refl _) _).alloc (by simp) _
    have hRD : RD (b + 2) w2 (b + 3) (b + 2) [] [] := by
      refine ⟨⟨wA, hG.below (by rw [← hb]; exact hbA) (Nat.le_refl _), by omega, hb2'⟩, ⟨none, 0, ?_, ⟨rfl, .inl ⟨rfl, rfl⟩⟩⟩, ⟨.map [], ?_, giv_nil⟩, by omega, Nat.le_refl _, by omega⟩
      · have h := heap_alloc_new (wA.alloc (.map #[] 0)) (.cells #[.string ⟨#[]⟩, .slice none 0 0, .map (some (b + 2))] 73)
        rw [World.size_alloc, hzA] at h
        rw [hw2]; exact h
      · have h := World.ownsMap_made wA Tryd.prog 9 mapE
        rw [hzA] at h
        rw [hw2]
        exact map_upd h (Upd.of_below ((Below.refl _ _).alloc (Nat.le_refl _) _) []) (by simp)
    have HS := Lib.hid (split_blk 10 s (by omega) w2 hRD.glo.glo)
    have HbA := Lib.hid hbA
    have HA0 := Lib.hid hA0
    have HA1 := Lib.hid hA1
    have Hb2 := Lib.hid hb2'
    have HRD := Lib.hid hRD
    have HwA := Lib.hid hwA
    have Hw2 := Lib.hid hw2
    have Hbe := Lib.hid hb
    clear hG hbA hA0 hA1 hb2' hRD hwA hw2
    go_enter_defers Tryd.func19, Tryd.ntmps19
    go_wp2_with fail
    rw [← hb, show b + 1 + 1 = b + 2 from rfl, show b + 2 + 1 = b + 3 from rfl]
    have he2 : ((((w.alloc (Obj.cells #[Value.slice none 0 0] 27)).alloc (Obj.cells #[Value.int IntKind.i64 0] 29)).alloc (Obj.map #[] 0)).alloc (Obj.cells #[Value.string ⟨#[]⟩, Value.slice none 0 0, Value.map (some (b + 2))] 73)) = w2 := by rw [Hw2.out, HwA.out]
    rw [he2]
    clear he2 hb hmf hmm
    refine HS.out.mono ?_
    rintro e w3 ⟨ps, hps, rfl, hw3⟩
    have hplen : (pcs 10 s.data.toList).length = ps.length := by rw [← hps, List.length_map]
    have hpl : ps.length ≤ 8001 := by
      rw [← hplen, pcs_length]
      have := List.count_le_length (a := (10 : UInt8)) (l := s.data.toList)
      rw [toList_len] at this
      omega
    have HPb : Hid (∀ p ∈ ps, p.size ≤ 8000) := Lib.hid fun p hp => by
      have := mem_pcs_le 10 s.data.toList p.data.toList (by rw [← hps]; exact List.mem_map_of_mem hp)
      rw [toList_len, toList_len] at this
      omega
    have hb3 : Below w2.heap.size w2 w3 := by rw [hw3]; exact (Below.refl _ _).alloc (Nat.le_refl _) _
    have HSb : Hid (w3.heap[w2.heap.size]? = some (.cells (ps.map Value.string).toArray 9 (0, 0))) := Lib.hid (by rw [hw3]; exact heap_alloc_new w2 _)
    have HRD3 := Lib.hid (HRD.out.later hb3)
    have HB3 : Hid (Below (b + 2) w2 w3) := Lib.hid (hb3.mono (by omega))
    have Hps := Lib.hid hps
    have Hplen := Lib.hid hplen
    rw [hz2] at HSb
    rw [hz2]
    clear hps hplen hb3 hw3 HRD HS
    go_wp2_with fail
    go_loopw [4, 18] (fun at_ i wr => ∃ (k : Nat) (a : List UInt8) (out : List Ln), k ≤ ps.length ∧ at_ = .int .i64 k ∧ i = .int .i64 k ∧ Hid (RD (b + 2) wr (b + 3) (b + 2) a out) ∧ Hid (a.length ≤ 8001) ∧ Hid (out.length ≤ k) ∧ Hid (parseL s.data.toList = runL k a out ((pcs 10 s.data.toList).drop k)) ∧ Hid (wr.heap[b + 4]? = some (.cells (ps.map Value.string).toArray 9 (0, 0))) ∧ Hid (Below (b + 2) w2 wr)) (fun _ i _ => ps.length - (intOf i).toNat)
    case atStart => exact ⟨0, [], [], by omega, rfl, rfl, HRD3, Lib.hid (by simp), Lib.hid (by simp), Lib.hid (by rw [Hpr.out]; rfl), HSb, HB3⟩
    case round =>
      clear HRD3 HSb HB3
      obtain ⟨k, a, out, hk, rfl, rfl, HR, Hal, Hol, Hrun, HSb, HB⟩ := hrel
      have hzr := HB.out.size
      have hbA2 : Hid (Below (b + 2) wA wr) := Lib.hid (Hb2.out.trans HB.out)
      have c0 : wr.cell? ⟨b, 0, none⟩ = some (.slice none 0 0) := by rw [cell_in ((hbA2.out.block b (by omega)).trans HA0.out)]; rfl
      have c1 : wr.cell? ⟨b + 1, 0, none⟩ = some (.int .i64 0) := by rw [cell_in ((hbA2.out.block (b + 1) (by omega)).trans HA1.out)]; rfl
      have f0 : wr.frozen? ⟨b, 0, none⟩ = false := free_in ((hbA2.out.block b (by omega)).trans HA0.out)
      have f1 : wr.frozen? ⟨b + 1, 0, none⟩ = false := free_in ((hbA2.out.block (b + 1) (by omega)).trans HA1.out)
      by_cases hlt : k < ps.length
      · obtain ⟨p, hp, hpL⟩ := pieceAt Hps.out k hlt
        have hpz := HPb.out p (List.mem_of_getElem? hp)
        have d0 : wr.cell? ⟨b + 4, k, none⟩ = some (.string p) := by
          rw [cell_in HSb.out, List.getElem?_toArray, List.getElem?_map, hp]
          rfl
        have Hdr : Hid ((pcs 10 s.data.toList).drop k = p.data.toList :: (pcs 10 s.data.toList).drop (k + 1)) := Lib.hid (drop_get hpL)
        have HL := Lib.hid (line_any p hpz ((k : Int) + 1) (by omega) (b + 2) (b + 3) (b + 2) a Hal.out out (by have := Hol.out; omega) wr HR.out)
        clear hp hpL
        have hk1 : (k : Int) + 1 ≤ 8001 := by omega
        go_wp2_with fail
        refine HL.out.mono ?_
        intro e w5 hln
        cases hl : lineL a out p.data.toList with
        | none =>
          rw [hl] at hln
          obtain ⟨rfl, hbel⟩ := hln
          have Hr : Hid (parseL s.data.toList = ([], 60, (k : Int) + 1)) := Lib.hid (by rw [Hrun.out, Hdr.out, run_none hl])
          have HB5 := Lib.hid (hbA2.out.trans hbel)
          have hz5 := hbel.size
          clear hbel hl
          have k0 := (HB5.out.block b (by omega)).trans HA0.out
          have k1 := (HB5.out.block (b + 1) (by omega)).trans HA1.out
          have K0 := Lib.hid k0
          have K1 := Lib.hid k1
          clear k0 k1
          unfold pan
          go_wp2_with fail
          refine leaves_cons (f := 47) (args := #[.pointer (some ⟨b, 0, none⟩), .pointer (some ⟨b + 1, 0, none⟩)]) (by simp) (by simp [go_sem]) ?_
          refine (parseC_pan b (.slice none 0 0) (.int .i64 0) w5 (cell_in K0.out) (free_in K0.out) (cell_in K1.out) (free_in K1.out) (by omega)).mono ?_
          rintro e u' w9 ⟨rfl, rfl, o, hw9⟩
          obtain ⟨q0, q1, hb9⟩ := two_cells (w := w5) (wa := w5.alloc o) (heap_al K0.out _) (heap_al K1.out _) ((Below.refl _ _).alloc (Nat.le_refl _) o) (by omega) hw9.symm
          clear hw9
          rw [Hr.out]
          simp [Leaves, settle, results, Tryd.results19, go_sem, q0, q1]
          exact ⟨⟨_, rfl, .inl ⟨rfl, rfl⟩⟩, by rw [← Hbe.out]; exact (HbA.out.trans (HB5.out.mono (by omega))).trans hb9⟩
        | some q =>
          obtain ⟨a', o⟩ := q
          rw [hl] at hln
          cases o with
          | none =>
            obtain ⟨rfl, hR5, hbel, hsk⟩ := hln
            have HR5 := Lib.hid hR5
            have HSb5 : Hid (w5.heap[b + 4]? = some (.cells (ps.map Value.string).toArray 9 (0, 0))) := Lib.hid (hsk _ _ HSb.out)
            have HB5 := Lib.hid (HB.out.trans hbel)
            have Hal5 : Hid (a'.length ≤ 8001) := Lib.hid (line_len hl Hal.out (by rw [toList_len]; exact hpz))
            have Hrun5 : Hid (parseL s.data.toList = runL (k + 1) a' out ((pcs 10 s.data.toList).drop (k + 1))) := Lib.hid (by rw [Hrun.out, Hdr.out, run_skip hl])
            clear hR5 hbel hsk hl
            go_wp2_with fail
            go_roundw
            case rel => exact ⟨k + 1, a', out, by omega, by go_num, by go_num, HR5, Hal5, Lib.hid (by have := Hol.out; omega), Hrun5, HSb5, HB5⟩
            case measure => simp [intOf]; omega
          | some nt =>
            obtain ⟨n, tt⟩ := nt
            obtain ⟨rfl, hR5, hbel, hsk⟩ := hln
            have HR5 := Lib.hid hR5
            have HSb5 : Hid (w5.heap[b + 4]? = some (.cells (ps.map Value.string).toArray 9 (0, 0))) := Lib.hid (hsk _ _ HSb.out)
            have HB5 := Lib.hid (HB.out.trans hbel)
            have Hal5 : Hid (a'.length ≤ 8001) := Lib.hid (line_len hl Hal.out (by rw [toList_len]; exact hpz))
            have Hrun5 : Hid (parseL s.data.toList = runL (k + 1) a' (out ++ [⟨n, tt, (k : Int) + 1⟩]) ((pcs 10 s.data.toList).drop (k + 1))) := Lib.hid (by rw [Hrun.out, Hdr.out, run_new hl])
            clear hR5 hbel hsk hl
            go_wp2_with fail
            go_roundw
            case rel => exact ⟨k + 1, a', _, by omega, by go_num, by go_num, HR5, Hal5, Lib.hid (by have := Hol.out; simp; omega), Hrun5, HSb5, HB5⟩
            case measure => simp [intOf]; omega
      · obtain rfl : k = ps.length := by omega
        have Hr : Hid (parseL s.data.toList = (out, 0, 0)) := Lib.hid (by rw [Hrun.out, List.drop_eq_nil_of_le (by rw [Hplen.out]; exact Nat.le_refl _)]; rfl)
        obtain ⟨p, c, hblk, hown⟩ := HR.out.blk
        have g1 := cell_in (o := 1) hblk
        simp only [List.getElem?_toArray, List.getElem?_cons_succ, List.getElem?_cons_zero] at g1
        have Hblk := Lib.hid hblk
        have Hnew := Lib.hid (own_new hown)
        clear hblk hown
        have K0 := Lib.hid ((hbA2.out.block b (by omega)).trans HA0.out)
        have K1 := Lib.hid ((hbA2.out.block (b + 1) (by omega)).trans HA1.out)
        go_wp2_with fail
        refine leaves_cons (f := 47) (args := #[.pointer (some ⟨b, 0, none⟩), .pointer (some ⟨b + 1, 0, none⟩)]) (by simp) (by simp [go_sem]) ?_
        refine (parseC_idle ⟨b, 0, none⟩ ⟨b + 1, 0, none⟩ _).mono ?_
        rintro e u' w9 ⟨rfl, rfl, hw9⟩
        obtain ⟨q0, q1, hb9⟩ := two_cells (w := wr) (wa := wr) K0.out K1.out (Below.refl _ _) (by omega) hw9.symm
        have Hnew9 := Lib.hid (Hnew.out.kept (fun g cs hg => by
          rw [hw9]
          exact heap_set_ne (heap_set_ne hg _ (ne_of_types hg K0.out (by decide))) _ (ne_of_types hg K1.out (by decide)) : ls.SK 35 wr w9))
        clear hw9
        rw [Hr.out]
        simp [Leaves, settle, results, Tryd.results19, go_sem, q0, q1]
        exact ⟨⟨_, rfl, Hnew9.out.mono (by rw [← Hbe.out]; omega)⟩, by rw [← Hbe.out]; exact (HbA.out.trans (hbA2.out.mono (by omega))).trans hb9⟩
end Go.Proofs.YtkbamhecbfocbaaDoor.ini
