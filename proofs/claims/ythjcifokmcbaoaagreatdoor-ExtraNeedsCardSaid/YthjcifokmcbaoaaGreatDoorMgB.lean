/- Laws and contracts on which the statement rests, part B: each text says what it proves, and its conditions. -/
import Derived.Test.YthjcifokmcbaoaaGreatDoorMgA
import Derived.Deep.RegionHeld3
import Derived.StillTactics
import Derived.Lib.AtoiAllCases
import Derived.Lib.ItoaNum
import Derived.Lib.Strings
import Derived.Lib.Join
import Derived.BigQuiet
import Derived.Deep.QuietTactic
import Derived.StillTailTactics
import Derived.Sort.Grow
import Derived.Shelf.SlSortCmp.SmallK
import Derived.Test.YthjcifokmcbaoaaGreatDoorShelf
import Derived.Lib.AppendIntMem
import Derived.Stop.LaidErr
import Derived.Lib.LaidTab
/- A law on memory for any program: an append of elements that were just laid, to a row of one-cell elements that the call owns. No conditions beside those stated. -/
namespace Go.Proofs.YthjcifokmcbaoaaGreatDoor
open Go.RowKit
section
variable {P : Program}

/-- 'append(out, x, y ..)', out a row of one-cell elements of the call's own (or nil): the new row. -/
theorem wpList_append_lit {ops : Array Oper} {rest : List Oper} {o : Oper} {a : Act} {w : World} {Q : Exit → Act → World → Prop} (hgd : o.guard = none) (s x : Operand) (t : TypeId)
    (ho : o.op = .call { callee := .builtin .append, args := #[s, x], argTypes := #[t, t] })
    (e : TypeId) (i : TypeInfo) (z : Value) (bytes : Nat) (ht : P.underlying t = some (.slice e)) (hi : P.info? e = some i) (hz : i.zero = some z)
    (hsize : i.size = 1) (hby : i.bytes = bytes) (hzs : z.cells.size = 1) (cs : Array Value) (m : Nat) (hm : 0 < m) (hx : a.eval x = .slice (some ⟨w.heap.size, 0, none⟩) m m) (hl : cs.size = m)
    (base : Nat) (v : Value) (n : Nat) (xs : List Value) (hs : a.eval s = v) (hown : w.ownsRow base e 1 v n xs)
    (h1 : ∀ u ∈ cs.toList, u.oneCell' = true) (h63 : n + m ≤ 9223372036854775807) (hbytes : (n + m) * bytes ≤ 140737488355328) (hbase : base ≤ w.heap.size)
    (h : ∀ g cap w', w'.ownsRow base e 1 (.slice (some ⟨g, 0, none⟩) (n + m) cap) (n + m) (xs ++ cs.toList) → w.grownBy w' v.ownBlock → (v.ownBlock = some g ∨ w.heap.size ≤ g) → w.heap.size < w'.heap.size → g < w'.heap.size →
      wpList P ops Q rest (a.put o.dst (.slice (some ⟨g, 0, none⟩) (n + m) cap)) w') :
    wpList P ops Q (o :: rest) a (w.alloc (.cells cs e)) := by
  refine wpList_append_lies (w.alloc (.cells cs e)) hgd s x t ho base e i z 1 bytes ht hi hz hsize hby hzs (by omega) v n xs hs (hown.alloc _) ⟨w.heap.size, 0, none⟩ m m cs.toList hx (by simpa using hl)
    (World.news_of_block (heap_alloc_new w _)) h1 hm (by unfold maxLen; omega) hbytes (by simp; omega) (w.heap.size + 1) (by simp) fun g cap w' h2 h3 h4 h5 => ?_
  refine h g cap w' h2 ⟨h3.os, h3.tape, h3.output, by have := h3.size; simp at this; omega, fun k hk hne => (h3.block k (by simp; omega) hne).trans (Below.heap_alloc w _ k hk)⟩ ?_ (by have := h3.size; simp at this; omega) h5
  rcases h4 with h4 | h4
  · exact .inl h4
  · exact .inr (by omega)

/-- The same at a step of a region that draws its order. -/
theorem step_append_lit {ops : Array Oper} {o : Oper} {a : Act} {w : World} {K : Act → World → Prop} {Q : Exit → Act → World → Prop} {E : Prop} (hgd : o.guard = none) (s x : Operand) (t : TypeId)
    (ho : o.op = .call { callee := .builtin .append, args := #[s, x], argTypes := #[t, t] })
    (e : TypeId) (i : TypeInfo) (z : Value) (bytes : Nat) (ht : P.underlying t = some (.slice e)) (hi : P.info? e = some i) (hz : i.zero = some z)
    (hsize : i.size = 1) (hby : i.bytes = bytes) (hzs : z.cells.size = 1) (cs : Array Value) (m : Nat) (hm : 0 < m) (hx : a.eval x = .slice (some ⟨w.heap.size, 0, none⟩) m m) (hl : cs.size = m)
    (base : Nat) (v : Value) (n : Nat) (xs : List Value) (hs : a.eval s = v) (hown : w.ownsRow base e 1 v n xs)
    (h1 : ∀ u ∈ cs.toList, u.oneCell' = true) (h63 : n + m ≤ 9223372036854775807) (hbytes : (n + m) * bytes ≤ 140737488355328) (hbase : base ≤ w.heap.size)
    (h : ∀ g cap w', w'.ownsRow base e 1 (.slice (some ⟨g, 0, none⟩) (n + m) cap) (n + m) (xs ++ cs.toList) → w.grownBy w' v.ownBlock → (v.ownBlock = some g ∨ w.heap.size ≤ g) → w.heap.size < w'.heap.size → g < w'.heap.size →
      K (a.put o.dst (.slice (some ⟨g, 0, none⟩) (n + m) cap)) w') :
    if Region.wanted o (yielded ops a.tmps) = true then Oper.wp P o a (w.alloc (.cells cs e)).drew K Q else E := by
  refine step_append_lies (w.alloc (.cells cs e)).drew hgd s x t ho base e i z 1 bytes ht hi hz hsize hby hzs (by omega) v n xs hs (hown.alloc _) ⟨w.heap.size, 0, none⟩ m m cs.toList hx (by simpa using hl)
    (World.news_of_block (heap_alloc_new w _)) h1 hm (by unfold maxLen; omega) hbytes (by simp; omega) (w.heap.size + 1) (by simp) fun g cap w' h2 h3 h4 h5 => ?_
  refine h g cap w' h2 ⟨h3.os, h3.tape, h3.output, by have := h3.size; simp at this; omega, fun k hk hne => (h3.block k (by simp; omega) hne).trans (Below.heap_alloc w _ k hk)⟩ ?_ (by have := h3.size; simp at this; omega) h5
  rcases h4 with h4 | h4
  · exact .inl h4
  · exact .inr (by omega)
end

/-- Behind such an append old memory is as it was. -/
theorem below_grown_own {B : Nat} {w0 w w' : World} {e : TypeId} {size n : Nat} {v : Value} {xs : List Value} (hb : Below B w0 w) (hown : w.ownsRow B e size v n xs) (hg : w.grownBy w' v.ownBlock) (hB : B ≤ w.heap.size) : Below B w0 w' :=
  hb.grown hg hB fun k hk => (hown.lt k hk).1
end Go.Proofs.YthjcifokmcbaoaaGreatDoor
/- Quoting: a plain function of bytes; glyph.Quote and the reference's Quote return it. Condition: the text is no longer than 2147483647 bytes. -/
namespace Go.Proofs.YthjcifokmcbaoaaGreatDoor.gl
open Go.ChangeShapes Go.WideShapes Go.ChangeAt Go.RowKit

def hexd (d : Nat) : UInt8 := if d < 10 then UInt8.ofNat (48 + d) else UInt8.ofNat (87 + d)
/-- How a byte is quoted. -/
def qB (b : UInt8) : List UInt8 := if b.toNat = 34 ∨ b.toNat = 92 then [92, b] else if 32 ≤ b.toNat ∧ b.toNat ≤ 126 then [b] else [92, 120, hexd (b.toNat / 16), hexd (b.toNat % 16)]
def quoteL (l : List UInt8) : List UInt8 := 34 :: (l.flatMap qB ++ [34])
theorem qB_le (b : UInt8) : (qB b).length ≤ 4 := by unfold qB; split; simp; split <;> simp
theorem flat_le (l : List UInt8) : (l.flatMap qB).length ≤ 4 * l.length := by
  induction l with
  | nil => simp
  | cons c r ih => rw [List.flatMap_cons, List.length_append, List.length_cons]; have := qB_le c; omega
theorem hexIx (d : Nat) (hd : d < 16) : ∀ h : d < (⟨#[48, 49, 50, 51, 52, 53, 54, 55, 56, 57, 97, 98, 99, 100, 101, 102]⟩ : ByteArray).size,
    (((⟨#[48, 49, 50, 51, 52, 53, 54, 55, 56, 57, 97, 98, 99, 100, 101, 102]⟩ : ByteArray)[d]'h).toNat : Int) = ((hexd d).toNat : Int) := by
  intro h
  rcases (show d = 0 ∨ d = 1 ∨ d = 2 ∨ d = 3 ∨ d = 4 ∨ d = 5 ∨ d = 6 ∨ d = 7 ∨ d = 8 ∨ d = 9 ∨ d = 10 ∨ d = 11 ∨ d = 12 ∨ d = 13 ∨ d = 14 ∨ d = 15 by omega) with rfl | rfl | rfl | rfl | rfl | rfl | rfl | rfl | rfl | rfl | rfl | rfl | rfl | rfl | rfl | rfl <;> rfl
theorem Tryz.infoByte : (Tryz.prog.info? 5).map (fun i => (i.zero, i.size, i.bytes)) = some (some (.int .u8 0), 1, 1) := by kernel_rfl
/-- What stands behind k bytes. -/
def qTo (l : List UInt8) (k : Nat) : List UInt8 := 34 :: (l.take k).flatMap qB
theorem qTo_zero (l : List UInt8) : qTo l 0 = [34] := rfl
theorem qTo_succ {l : List UInt8} {k : Nat} {b : UInt8} (h : l[k]? = some b) : qTo l (k + 1) = qTo l k ++ qB b := by
  have hlt : k < l.length := by
    rcases Nat.lt_or_ge k l.length with h1 | h1
    · exact h1
    · rw [List.getElem?_eq_none h1] at h; cases h
  have : l.take (k + 1) = l.take k ++ [b] := by
    rw [List.take_succ_eq_append_getElem hlt]
    rw [List.getElem?_eq_getElem hlt] at h
    rw [Option.some.inj h]
  simp [qTo, this]
theorem qTo_le (l : List UInt8) (k : Nat) : (qTo l k).length ≤ 1 + 4 * k := by
  have h1 := flat_le (l.take k)
  have h2 : (l.take k).length ≤ k := List.length_take_le _ _
  simp only [qTo, List.length_cons]
  omega
theorem qTo_end (l : List UInt8) : qTo l l.length ++ [34] = quoteL l := by simp [qTo, quoteL]

theorem own_next {l : List UInt8} {k : Nat} {b : UInt8} {cs : List Value} {w : World} {B m : Nat} {e : TypeId} {v : Value} (hb : l[k]? = some b) (hq : bv (qB b) = cs)
    (h : w.ownsRow B e 1 v m (bv (qTo l k) ++ cs)) : w.ownsRow B e 1 v m (bv (qTo l (k + 1))) := by
  rw [qTo_succ hb, bv_append, hq]; exact h

end Go.Proofs.YthjcifokmcbaoaaGreatDoor.gl
/- Plain laws on quoting: what is quoted is read back, by the strict reader and by the lenient one. No program in sight. -/
namespace Go.Proofs.YthjcifokmcbaoaaGreatDoor.gl
open Go.RowKit

/-- What a digit of sixteen says; below 0: it is none. -/
def digv (c : UInt8) : Int := if 48 ≤ c.toNat ∧ c.toNat ≤ 57 then (c.toNat : Int) - 48 else if 97 ≤ c.toNat ∧ c.toNat ≤ 102 then (c.toNat : Int) - 87 else -1
theorem digv_bd (c : UInt8) : -1 ≤ digv c ∧ digv c ≤ 15 := by unfold digv; split; omega; split <;> omega
theorem hexd_nat {d : Nat} (h : d < 16) : (hexd d).toNat = if d < 10 then 48 + d else 87 + d := by
  unfold hexd
  split <;> rw [UInt8.toNat_ofNat'] <;> omega
theorem digv_hexd {d : Nat} (h : d < 16) : digv (hexd d) = d := by
  have := hexd_nat h
  unfold digv
  by_cases h1 : d < 10
  · rw [if_pos h1] at this
    rw [if_pos (by omega)]; omega
  · rw [if_neg h1] at this
    rw [if_neg (by omega), if_pos (by omega)]; omega
theorem hexd_digv {c : UInt8} {d : Nat} (h : digv c = d) : c = hexd d ∧ d < 16 := by
  have hd : d < 16 := by have := digv_bd c; omega
  refine ⟨UInt8.toNat_inj.1 ?_, hd⟩
  rw [hexd_nat hd]
  unfold digv at h
  split at h
  · rw [if_pos (by omega)]; omega
  · split at h
    · rw [if_neg (by omega)]; omega
    · omega
theorem digv_index : ∀ n : Nat, n < 256 → Lib.indexByte [48, 49, 50, 51, 52, 53, 54, 55, 56, 57, 97, 98, 99, 100, 101, 102] (UInt8.ofNat n) = digv (UInt8.ofNat n) := by decide +kernel
theorem indexByte_hex (c : UInt8) : Lib.indexByte [48, 49, 50, 51, 52, 53, 54, 55, 56, 57, 97, 98, 99, 100, 101, 102] c = digv c := by
  have := digv_index c.toNat c.toNat_lt
  rwa [UInt8.ofNat_toNat] at this

/-- The strict reader's step: the byte that is meant, and how many bytes say it (0: none do). -/
def nextL : List UInt8 → UInt8 × Nat
  | [] => (0, 0)
  | a :: r => if a.toNat = 34 ∨ a.toNat < 32 ∨ 126 < a.toNat then (0, 0) else if a.toNat ≠ 92 then (a, 1) else match r with
    | [] => (0, 0)
    | b :: r' => if b.toNat = 34 ∨ b.toNat = 92 then (b, 2) else if b.toNat ≠ 120 then (0, 0) else match r' with
      | c :: d :: _ => if digv c < 0 ∨ digv d < 0 ∨ (32 ≤ 16 * digv c + digv d ∧ 16 * digv c + digv d ≤ 126) then (0, 0) else (UInt8.ofNat (16 * digv c + digv d).toNat, 4)
      | _ => (0, 0)

theorem nextL_qB (b : UInt8) (t : List UInt8) : nextL (qB b ++ t) = (b, (qB b).length) := by
  have hb := b.toNat_lt
  unfold qB
  split
  · rename_i h
    simp only [List.cons_append, List.nil_append, nextL]
    rw [if_neg (by decide), if_neg (by decide), if_pos h]
    rfl
  · rename_i h
    split
    · rename_i h2
      show (if (b.toNat = 34 ∨ b.toNat < 32 ∨ 126 < b.toNat) then _ else if b.toNat ≠ 92 then _ else _) = _
      rw [if_neg (by omega), if_pos (by omega)]
      rfl
    · rename_i h2
      have h16 : b.toNat / 16 < 16 := by omega
      have h17 : b.toNat % 16 < 16 := by omega
      simp only [List.cons_append, List.nil_append, nextL]
      rw [digv_hexd h16, digv_hexd h17, if_neg (by decide), if_neg (by decide), if_neg (by decide), if_neg (by decide), if_neg (by omega)]
      have : (16 * ((b.toNat / 16 : Nat) : Int) + ((b.toNat % 16 : Nat) : Int)).toNat = b.toNat := by omega
      rw [this, UInt8.ofNat_toNat]
      rfl
theorem nextL_ok {l : List UInt8} {c : UInt8} {n : Nat} (h : nextL l = (c, n)) (hn : n ≠ 0) : l = qB c ++ l.drop n ∧ n = (qB c).length := by
  cases l with
  | nil => simp [nextL] at h; omega
  | cons a r =>
    unfold nextL at h
    simp only at h
    by_cases h1 : a.toNat = 34 ∨ a.toNat < 32 ∨ 126 < a.toNat
    · rw [if_pos h1] at h; simp at h; omega
    · rw [if_neg h1] at h
      by_cases h2 : a.toNat ≠ 92
      · rw [if_pos h2] at h
        simp only [Prod.mk.injEq] at h
        obtain ⟨rfl, rfl⟩ := h
        have : qB a = [a] := by unfold qB; rw [if_neg (by omega), if_pos (by omega)]
        rw [this]
        exact ⟨rfl, rfl⟩
      · rw [if_neg h2] at h
        have ha : a = 92 := UInt8.toNat_inj.1 (by show a.toNat = 92; omega)
        cases r with
        | nil => simp at h; omega
        | cons b r' =>
          simp only at h
          by_cases h3 : b.toNat = 34 ∨ b.toNat = 92
          · rw [if_pos h3] at h
            simp only [Prod.mk.injEq] at h
            obtain ⟨rfl, rfl⟩ := h
            have : qB b = [92, b] := by unfold qB; rw [if_pos h3]
            rw [this, ha]
            exact ⟨rfl, rfl⟩
          · rw [if_neg h3] at h
            by_cases h4 : b.toNat ≠ 120
            · rw [if_pos h4] at h; simp at h; omega
            · rw [if_neg h4] at h
              have hb : b = 120 := UInt8.toNat_inj.1 (by show b.toNat = 120; omega)
              match r', h with
              | [], h => simp at h; omega
              | [_], h => simp at h; omega
              | x :: y :: t, h =>
                simp only at h
                by_cases h5 : digv x < 0 ∨ digv y < 0 ∨ (32 ≤ 16 * digv x + digv y ∧ 16 * digv x + digv y ≤ 126)
                · rw [if_pos h5] at h; simp at h; omega
                · rw [if_neg h5] at h
                  simp only [Prod.mk.injEq] at h
                  obtain ⟨hc, rfl⟩ := h
                  obtain ⟨dx, hdx⟩ := Int.eq_ofNat_of_zero_le (show 0 ≤ digv x by omega)
                  obtain ⟨dy, hdy⟩ := Int.eq_ofNat_of_zero_le (show 0 ≤ digv y by omega)
                  obtain ⟨ex, hx⟩ := hexd_digv hdx
                  obtain ⟨ey, hy⟩ := hexd_digv hdy
                  have hn : c.toNat = 16 * dx + dy := by
                    rw [← hc, UInt8.toNat_ofNat', hdx, hdy]
                    omega
                  rw [hdx, hdy] at h5
                  have : qB c = [92, 120, hexd (c.toNat / 16), hexd (c.toNat % 16)] := by
                    unfold qB
                    rw [if_neg (by omega), if_neg (by omega)]
                  rw [this, hn, show (16 * dx + dy) / 16 = dx by omega, show (16 * dx + dy) % 16 = dy by omega, ← ex, ← ey, ha, hb]
                  exact ⟨rfl, rfl⟩
theorem qB_inj {c d : UInt8} {t u : List UInt8} (h : qB c ++ t = qB d ++ u) : c = d ∧ t = u := by
  have h1 := nextL_qB c t
  rw [h, nextL_qB d u] at h1
  simp only [Prod.mk.injEq] at h1
  obtain ⟨rfl, _⟩ := h1
  exact ⟨rfl, List.append_cancel_left h⟩
theorem qB_ne (c : UInt8) (t : List UInt8) : qB c ++ t ≠ [] := by unfold qB; split; simp; split <;> simp
theorem flat_prefix : ∀ (out x rest : List UInt8), out.flatMap qB ++ rest = x.flatMap qB → ∃ y, rest = y.flatMap qB ∧ x = out ++ y
  | [], x, rest, h => ⟨x, by simpa using h, rfl⟩
  | c :: out, [], rest, h => by
    rw [List.flatMap_cons, List.append_assoc] at h
    exact absurd h (qB_ne _ _)
  | c :: out, d :: x, rest, h => by
    rw [List.flatMap_cons, List.flatMap_cons, List.append_assoc] at h
    obtain ⟨rfl, h2⟩ := qB_inj h
    obtain ⟨y, h3, h4⟩ := flat_prefix out x rest h2
    exact ⟨y, h3, by rw [h4]; rfl⟩
theorem flat_inj {x y : List UInt8} (h : x.flatMap qB = y.flatMap qB) : x = y := by
  obtain ⟨z, h1, h2⟩ := flat_prefix x y [] (by simpa using h)
  cases z with
  | nil => simpa using h2.symm
  | cons c z => rw [List.flatMap_cons] at h1; exact absurd h1.symm (qB_ne _ _)
theorem quoteL_inj {x y : List UInt8} (h : quoteL x = quoteL y) : x = y := by
  unfold quoteL at h
  simp only [List.cons.injEq, true_and] at h
  exact flat_inj (List.append_cancel_right h)

/-- What is read, and the error. -/
noncomputable def unqL (l : List UInt8) : List UInt8 := open Classical in if h : ∃ x, quoteL x = l then h.choose else []
noncomputable def unqE (l : List UInt8) : Int := open Classical in if ∃ x, quoteL x = l then 0 else 20
theorem unqL_yes {x l : List UInt8} (h : quoteL x = l) : unqL l = x ∧ unqE l = 0 := by
  have hx : ∃ x, quoteL x = l := ⟨x, h⟩
  refine ⟨?_, ?_⟩
  · unfold unqL
    rw [dif_pos hx]
    exact quoteL_inj (hx.choose_spec.trans h.symm)
  · unfold unqE
    rw [if_pos hx]
theorem unqL_no {l : List UInt8} (h : ∀ x, quoteL x ≠ l) : unqL l = [] ∧ unqE l = 20 := by
  have hx : ¬ ∃ x, quoteL x = l := fun ⟨x, hx⟩ => h x hx
  refine ⟨?_, ?_⟩
  · unfold unqL
    rw [dif_neg hx]
  · unfold unqE
    rw [if_neg hx]

/-! ### What stands between the quotes -/
theorem inner_of_quote {x l : List UInt8} (h : quoteL x = l) : 2 ≤ l.length ∧ l[0]? = some 34 ∧ l[l.length - 1]? = some 34 ∧ (l.drop 1).take (l.length - 2) = x.flatMap qB := by
  subst h
  refine ⟨by simp [quoteL], rfl, ?_, ?_⟩
  · simp [quoteL]
  · simp [quoteL]
theorem quote_of_inner {x l : List UInt8} (h2 : 2 ≤ l.length) (h0 : l[0]? = some 34) (h1 : l[l.length - 1]? = some 34) (h : (l.drop 1).take (l.length - 2) = x.flatMap qB) : quoteL x = l := by
  unfold quoteL
  rw [← h]
  cases l with
  | nil => simp at h2
  | cons a r =>
    simp at h0
    subst h0
    simp only [List.drop_succ_cons, List.drop_zero, List.length_cons] at *
    congr 1
    rw [show r.length + 1 - 2 = r.length - 1 by omega]
    have hr : r.length - 1 < r.length := by omega
    have h34 : r[r.length - 1]? = some 34 := by
      rw [show r.length + 1 - 1 = (r.length - 1) + 1 by omega, List.getElem?_cons_succ] at h1
      exact h1
    conv => rhs; rw [← List.take_append_drop (r.length - 1) r]
    congr 1
    rw [List.drop_eq_getElem_cons hr]
    rw [List.getElem?_eq_getElem hr] at h34
    rw [Option.some.inj h34, List.drop_of_length_le (by omega)]

/-- The strict reader has read out, and rest is left. -/
theorem strict_fail {inner out rest : List UInt8} (h : inner = out.flatMap qB ++ rest) (hne : rest ≠ []) (hn : (nextL rest).2 = 0) : ∀ x : List UInt8, inner ≠ x.flatMap qB := by
  intro x hx
  obtain ⟨y, h1, _⟩ := flat_prefix out x rest (h.symm.trans hx)
  cases y with
  | nil => exact hne h1
  | cons c y =>
    rw [List.flatMap_cons] at h1
    rw [h1, nextL_qB] at hn
    simp only at hn
    have : qB c = [] := List.eq_nil_of_length_eq_zero hn
    have h2 := qB_ne c []
    rw [this] at h2
    exact h2 rfl
theorem strict_step {inner out rest : List UInt8} {c : UInt8} {n : Nat} (h : inner = out.flatMap qB ++ rest) (hx : nextL rest = (c, n)) (hn : n ≠ 0) : inner = (out ++ [c]).flatMap qB ++ rest.drop n := by
  rw [List.flatMap_append, List.append_assoc]
  simp only [List.flatMap_cons, List.flatMap_nil, List.append_nil]
  rw [← (nextL_ok hx hn).1]
  exact h

/-! ### The lenient reader -/
/-- What two digits say, or whatever. -/
def hbv (x y : Int) : Int := (bits .or .i64 (x * 16) (bits .and .i64 y 15)) % 256
def lstep : List UInt8 → UInt8 × Nat
  | [] => (0, 1)
  | a :: r => if a.toNat = 92 then match r with
      | [] => (a, 1)
      | b :: r' => if b.toNat = 120 then match r' with
          | c :: d :: _ => (UInt8.ofNat (hbv (digv c) (digv d)).toNat, 4)
          | _ => (b, 2)
        else (b, 2)
    else (a, 1)
def lenF : Nat → List UInt8 → List UInt8
  | 0, _ => []
  | _ + 1, [] => []
  | f + 1, a :: r => (lstep (a :: r)).1 :: lenF f ((a :: r).drop (lstep (a :: r)).2)
theorem lenF_nil (f : Nat) : lenF f [] = [] := by cases f <;> rfl
theorem lenF_succ {f : Nat} {l : List UInt8} (h : l ≠ []) : lenF (f + 1) l = (lstep l).1 :: lenF f (l.drop (lstep l).2) := by
  cases l with
  | nil => exact absurd rfl h
  | cons a r => rfl
theorem hbv_digits : ∀ x : Nat, x < 16 → ∀ y : Nat, y < 16 → hbv (x : Int) (y : Int) = 16 * x + y := by decide +kernel
theorem lstep_qB (b : UInt8) (t : List UInt8) : lstep (qB b ++ t) = (b, (qB b).length) := by
  have hb := b.toNat_lt
  unfold qB
  split
  · rename_i h
    simp only [List.cons_append, List.nil_append, lstep]
    rw [if_pos (by decide), if_neg (by omega)]
    rfl
  · rename_i h
    split
    · show (if b.toNat = 92 then _ else (b, 1)) = _
      rw [if_neg (by omega)]
      rfl
    · have h16 : b.toNat / 16 < 16 := by omega
      have h17 : b.toNat % 16 < 16 := by omega
      simp only [List.cons_append, List.nil_append, lstep]
      rw [if_pos (by decide), if_pos (by decide), digv_hexd h16, digv_hexd h17, hbv_digits _ h16 _ h17]
      have : (16 * ((b.toNat / 16 : Nat) : Int) + ((b.toNat % 16 : Nat) : Int)).toNat = b.toNat := by omega
      rw [this, UInt8.ofNat_toNat]
      rfl
theorem lenF_flat : ∀ (y : List UInt8) (f : Nat), y.length ≤ f → lenF f (y.flatMap qB) = y
  | [], f, _ => lenF_nil f
  | c :: y, 0, h => by simp at h
  | c :: y, f + 1, h => by
    rw [List.flatMap_cons, lenF_succ (qB_ne _ _), lstep_qB, List.drop_left, lenF_flat y f (by simpa using h)]
/-- The lenient reader has read out of inner, and rest is left. -/
def Len (inner out rest : List UInt8) : Prop := ∀ f, lenF (f + out.length) inner = out ++ lenF f rest
theorem Len.start (inner : List UInt8) : Len inner [] inner := fun _ => rfl
theorem Len.step {inner out rest : List UInt8} {c : UInt8} {n : Nat} (h : Len inner out rest) (hne : rest ≠ []) (hs : lstep rest = (c, n)) : Len inner (out ++ [c]) (rest.drop n) := by
  intro f
  have := h (f + 1)
  rw [lenF_succ hne, hs] at this
  rw [List.length_append, List.length_singleton, show f + (out.length + 1) = f + 1 + out.length by omega, this]
  simp
theorem Len.done {inner out y : List UInt8} (h : Len inner out []) (hy : inner = y.flatMap qB) : out = y := by
  have h1 := h y.length
  rw [lenF_nil, List.append_nil, hy, lenF_flat y _ (by omega)] at h1
  exact h1.symm
end Go.Proofs.YthjcifokmcbaoaaGreatDoor.gl
/- Chapter 6 in plain words: what a file gives, and the file of lines. Laws on lists of bytes; no program in sight, no conditions beside those stated. -/
namespace Go.Proofs.YthjcifokmcbaoaaGreatDoor.ini
open gl

def blk (b : UInt8) : Bool := b == 32 || b == 9
def triL (l : List UInt8) : List UInt8 := l.dropWhile blk
def triR (l : List UInt8) : List UInt8 := (l.reverse.dropWhile blk).reverse
def tri (l : List UInt8) : List UInt8 := triR (triL l)
def prn (l : List UInt8) : Bool := l.all fun b => decide (32 ≤ b.toNat ∧ b.toNat ≤ 126)
structure Ln where
  name : List UInt8
  text : List UInt8
  num : Int
/-- What a text means. -/
noncomputable def unqO (t : List UInt8) : Option (List UInt8) := if t.head? = some 34 then (if unqE t = 0 then some (unqL t) else none) else if prn t = true then some t else none
noncomputable def meantL (t : List UInt8) : Option (List UInt8) := match unqO t with
  | none => none
  | some s => if s.length ≤ 200 then some s else none
/-- What stands behind the bracket. -/
def secOk (p : List UInt8) : Bool := decide ((pcs 46 p).length ≤ 2) && (pcs 46 p).all partL
def secL (r : List UInt8) : Option (List UInt8) :=
  if r.getLast? = some 93 then (if r.dropLast = [] then some [] else if secOk r.dropLast = true then some (r.dropLast ++ [46]) else none) else none
def beforeE (x : List UInt8) : List UInt8 := x.takeWhile (· != 61)
def afterE (x : List UInt8) : List UInt8 := (x.dropWhile (· != 61)).drop 1
def there (out : List Ln) (n : List UInt8) : Bool := out.any fun y => decide (y.name = n)
noncomputable def givenL (ahead : List UInt8) (out : List Ln) (x : List UInt8) : Option (List UInt8 × List UInt8) :=
  if (61 : UInt8) ∈ x ∧ nameL (ahead ++ triR (beforeE x)) = true ∧ there out (ahead ++ triR (beforeE x)) = false then (meantL (triL (afterE x))).map fun t => (ahead ++ triR (beforeE x), t) else none
/-- One line, its blanks off: the section, and what is given. -/
noncomputable def lineT (ahead : List UInt8) (out : List Ln) : List UInt8 → Option (List UInt8 × Option (List UInt8 × List UInt8))
  | [] => some (ahead, none)
  | c :: r => if c = 59 ∨ c = 35 then some (ahead, none) else if c = 91 then (secL r).map fun a => (a, none) else (givenL ahead out (c :: r)).map fun p => (ahead, some p)
theorem lineT_cons (ahead : List UInt8) (out : List Ln) (c : UInt8) (r : List UInt8) : lineT ahead out (c :: r) = if c = 59 ∨ c = 35 then some (ahead, none) else if c = 91 then (secL r).map fun a => (a, none) else (givenL ahead out (c :: r)).map fun p => (ahead, some p) := rfl
noncomputable def lineL (ahead : List UInt8) (out : List Ln) (s : List UInt8) := lineT ahead out (tri s)
noncomputable def runL : Nat → List UInt8 → List Ln → List (List UInt8) → List Ln × Int × Int
  | _, _, out, [] => (out, 0, 0)
  | k, ahead, out, s :: ss => match lineL ahead out s with
    | none => ([], 60, (k : Int) + 1)
    | some (a, none) => runL (k + 1) a out ss
    | some (a, some (n, t)) => runL (k + 1) a (out ++ [⟨n, t, (k : Int) + 1⟩]) ss
noncomputable def parseL (l : List UInt8) : List Ln × Int × Int := if l.length ≤ 8000 then runL 0 [] [] (pcs 10 l) else ([], 61, 0)

/-! ### The file of lines -/
def bareL (t : List UInt8) : Bool := !t.isEmpty && prn t && decide (t.head? ≠ some 34) && decide (tri t = t)
def textL (t : List UInt8) : List UInt8 := if bareL t = true then t else quoteL t
def headL (x : Ln) : List UInt8 := x.name ++ [32, 61, 32] ++ textL x.text
def lineOut (x : Ln) : List UInt8 := headL x ++ [10]
def mayL (done : List Ln) (x : Ln) : Bool := nameL x.name && !there done x.name && decide (x.text.length ≤ 200)
def prL (done : List Ln) (out : List UInt8) : List Ln → List UInt8 × Int
  | [] => (out, 0)
  | x :: r => if mayL done x = true ∧ (out ++ lineOut x).length ≤ 8000 then prL (done ++ [x]) (out ++ lineOut x) r else ([], 1)
def printL (l : List Ln) : List UInt8 × Int := prL [] [] l

/-! ### Blanks -/
theorem tri_nil : tri [] = [] := rfl
theorem dropWhile_all {l : List UInt8} (h : ∀ b ∈ l, blk b = true) : l.dropWhile blk = [] := by
  induction l with
  | nil => rfl
  | cons c r ih => rw [List.dropWhile_cons, if_pos (h c (by simp))]; exact ih fun b hb => h b (by simp [hb])
theorem dropWhile_pre {p l : List UInt8} (h : ∀ b ∈ p, blk b = true) : (p ++ l).dropWhile blk = l.dropWhile blk := by
  induction p with
  | nil => rfl
  | cons c r ih => rw [List.cons_append, List.dropWhile_cons, if_pos (h c (by simp))]; exact ih fun b hb => h b (by simp [hb])
theorem triL_pre {p l : List UInt8} (h : ∀ b ∈ p, blk b = true) : triL (p ++ l) = triL l := dropWhile_pre h
theorem triR_suf {p l : List UInt8} (h : ∀ b ∈ p, blk b = true) : triR (l ++ p) = triR l := by
  unfold triR
  rw [List.reverse_append, dropWhile_pre fun b hb => h b (by simpa using hb)]
theorem triL_first {c : UInt8} {r : List UInt8} (h : blk c = false) : triL (c :: r) = c :: r := by
  unfold triL; rw [List.dropWhile_cons, if_neg (by simp [h])]
theorem triR_last {c : UInt8} {r : List UInt8} (h : blk c = false) : triR (r ++ [c]) = r ++ [c] := by
  unfold triR
  rw [List.reverse_append, List.reverse_singleton, List.singleton_append, List.dropWhile_cons, if_neg (by simp [h])]
  simp
theorem triL_suf {p l : List UInt8} (h : ∀ b ∈ p, blk b = true) : triL (l ++ p) = triL l ++ (if triL l = [] then [] else p) := by
  induction l with
  | nil => simp [triL, dropWhile_all h]
  | cons c r ih =>
    cases hc : blk c with
    | true =>
      have e1 : triL (c :: r ++ p) = triL (r ++ p) := by unfold triL; rw [List.cons_append, List.dropWhile_cons, if_pos hc]
      have e2 : triL (c :: r) = triL r := by unfold triL; rw [List.dropWhile_cons, if_pos hc]
      rw [e1, e2, ih]
    | false =>
      rw [List.cons_append, triL_first hc, triL_first hc, if_neg (by simp)]
      rfl
theorem tri_pre {p l : List UInt8} (h : ∀ b ∈ p, blk b = true) : tri (p ++ l) = tri l := by unfold tri; rw [triL_pre h]
theorem tri_suf {p l : List UInt8} (h : ∀ b ∈ p, blk b = true) : tri (l ++ p) = tri l := by
  unfold tri
  rw [triL_suf h]
  split
  · simp
  · exact triR_suf h
theorem takeWhile_blk {l : List UInt8} {b : UInt8} (h : b ∈ l.takeWhile blk) : blk b = true := by
  induction l with
  | nil => simp at h
  | cons c r ih =>
    rw [List.takeWhile_cons] at h
    split at h
    · rcases List.mem_cons.1 h with rfl | h
      · assumption
      · exact ih h
    · simp at h
theorem triR_nil_or (l : List UInt8) : triR l = [] ∨ ∃ r c, triR l = r ++ [c] ∧ blk c = false := by
  unfold triR
  cases h : l.reverse.dropWhile blk with
  | nil => left; rfl
  | cons c r =>
    right
    refine ⟨r.reverse, c, by simp, ?_⟩
    have := List.head?_dropWhile_not blk l.reverse
    rw [h] at this
    simpa using this
theorem triL_nil_or (l : List UInt8) : triL l = [] ∨ ∃ r c, triL l = c :: r ∧ blk c = false := by
  unfold triL
  cases h : l.dropWhile blk with
  | nil => left; rfl
  | cons c r =>
    right
    refine ⟨r, c, rfl, ?_⟩
    have := List.head?_dropWhile_not blk l
    rw [h] at this
    simpa using this
theorem triR_prefix (l : List UInt8) : ∃ p, l = triR l ++ p ∧ ∀ b ∈ p, blk b = true := by
  refine ⟨(l.reverse.takeWhile blk).reverse, ?_, fun b hb => ?_⟩
  · unfold triR
    rw [← List.reverse_append, List.takeWhile_append_dropWhile, List.reverse_reverse]
  · exact takeWhile_blk (by simpa using hb)
theorem triL_suffix (l : List UInt8) : ∃ p, l = p ++ triL l ∧ ∀ b ∈ p, blk b = true := by
  refine ⟨l.takeWhile blk, ?_, fun b hb => takeWhile_blk hb⟩
  unfold triL
  rw [List.takeWhile_append_dropWhile]
/-- What is trimmed begins and ends with no blank. -/
theorem tri_ends (l : List UInt8) : tri l = [] ∨ (∃ r c, tri l = c :: r ∧ blk c = false) ∧ ∃ r c, tri l = r ++ [c] ∧ blk c = false := by
  rcases triR_nil_or (triL l) with h | ⟨r, c, h, hc⟩
  · exact .inl h
  · right
    refine ⟨?_, r, c, h, hc⟩
    rcases triL_nil_or l with h2 | ⟨r2, d, h2, hd⟩
    · unfold triR at h; rw [h2] at h; simp at h
    · obtain ⟨p, hp, _⟩ := triR_prefix (triL l)
      rw [h, h2] at hp
      show ∃ r c, triR (triL l) = c :: r ∧ blk c = false
      rw [h]
      cases r with
      | nil => exact ⟨[], c, rfl, hc⟩
      | cons a r' =>
        simp at hp
        exact ⟨r' ++ [c], a, rfl, by rw [← hp.1]; exact hd⟩
theorem tri_len (l : List UInt8) : (tri l).length ≤ l.length := by
  obtain ⟨p, hp, _⟩ := triR_prefix (triL l)
  obtain ⟨q, hq, _⟩ := triL_suffix l
  have h1 := congrArg List.length hp
  have h2 := congrArg List.length hq
  simp at h1 h2
  show (triR (triL l)).length ≤ _
  omega
theorem triR_len (l : List UInt8) : (triR l).length ≤ l.length := by
  obtain ⟨p, hp, _⟩ := triR_prefix l
  have h1 := congrArg List.length hp
  simp at h1
  omega
theorem triL_len (l : List UInt8) : (triL l).length ≤ l.length := by
  obtain ⟨p, hp, _⟩ := triL_suffix l
  have h1 := congrArg List.length hp
  simp at h1
  omega
/-- Lines that are the same without their blanks give the same. -/
theorem runL_congr : ∀ (k : Nat) (a : List UInt8) (out : List Ln) (ss tt : List (List UInt8)), ss.map tri = tt.map tri → runL k a out ss = runL k a out tt
  | k, a, out, [], [], _ => rfl
  | k, a, out, [], t :: tt, h => by simp at h
  | k, a, out, s :: ss, [], h => by simp at h
  | k, a, out, s :: ss, t :: tt, h => by
    simp only [List.map_cons, List.cons.injEq] at h
    have e : lineL a out s = lineL a out t := by unfold lineL; rw [h.1]
    rw [runL, runL, e]
    split
    · rfl
    · exact runL_congr _ _ _ _ _ h.2
    · exact runL_congr _ _ _ _ _ h.2
end Go.Proofs.YthjcifokmcbaoaaGreatDoor.ini
/- Plain laws of values: the numbers that digits spell, a value, what a text reads as, what a value prints as, which values may be. No program in sight; no conditions. -/
namespace Go.Proofs.YthjcifokmcbaoaaGreatDoor.va

abbrev B (l : List UInt8) : ByteArray := ⟨l.toArray⟩
theorem B_toList (s : ByteArray) : B s.data.toList = s := by cases s; rfl
theorem B_inj {a b : List UInt8} (h : B a = B b) : a = b := by
  have := congrArg (fun s : ByteArray => s.data.toList) h
  simpa using this
theorem ba_eq {a b : ByteArray} (h : a.data.toList = b.data.toList) : a = b := by rw [← B_toList a, ← B_toList b, h]
theorem ba_ne {a b : ByteArray} (h : a ≠ b) : a.data.toList ≠ b.data.toList := fun e => h (ba_eq e)

/-! ### Numbers -/
def isDig (b : UInt8) : Bool := decide (48 ≤ b.toNat ∧ b.toNat ≤ 57)
/-- What digits spell, behind what was spelt. -/
def decN (acc : Nat) (l : List UInt8) : Nat := l.foldl (fun a c => a * 10 + (c.toNat - 48)) acc
theorem decN_cons (acc : Nat) (c : UInt8) (r : List UInt8) : decN acc (c :: r) = decN (acc * 10 + (c.toNat - 48)) r := by unfold decN; rw [List.foldl_cons]
theorem decN_nil (acc : Nat) : decN acc [] = acc := by unfold decN; rw [List.foldl_nil]
theorem decN_ge : ∀ (l : List UInt8) (acc : Nat), acc ≤ decN acc l
  | [], acc => Nat.le_refl _
  | c :: r, acc => by
    have := decN_ge r (acc * 10 + (c.toNat - 48))
    rw [decN_cons]
    omega
theorem decN_snoc : ∀ (l : List UInt8) (acc : Nat) (c : UInt8), decN acc (l ++ [c]) = decN acc l * 10 + (c.toNat - 48)
  | l, acc, c => by unfold decN; rw [List.foldl_append, List.foldl_cons, List.foldl_nil]
theorem parse_dec : ∀ (l : List UInt8) (acc : Nat), l.all isDig = true → acc < 18446744073709551616 →
    Lib.parseUint10 acc l = if decN acc l < 18446744073709551616 then .ok (decN acc l) else .range
  | [], acc, _, ha => by
    rw [decN_nil, if_pos ha, Lib.parseUint10]
  | c :: r, acc, h, ha => by
    simp only [List.all_cons, Bool.and_eq_true] at h
    have hc : 48 ≤ c.toNat ∧ c.toNat ≤ 57 := of_decide_eq_true h.1
    have hge := decN_ge r (acc * 10 + (c.toNat - 48))
    rw [Lib.parseUint10, if_pos hc, decN_cons]
    split
    · rw [if_neg (by omega)]
    · split
      · rw [if_neg (by omega)]
      · exact parse_dec r _ h.2 (by omega)

/-- No 0 ahead, and something there. -/
def shaped (l : List UInt8) : Bool := match l with
  | [] => false
  | c :: r => decide (c.toNat ≠ 48) || r.isEmpty
/-- A number; none: it is none. At most one above 2^62. -/
def num (l : List UInt8) : Option Nat := if l.all isDig && shaped l then some (min (decN 0 l) 4611686018427387905) else none
theorem num_le {l : List UInt8} {n : Nat} (h : num l = some n) : n ≤ 4611686018427387905 := by
  unfold num at h
  split at h
  · have := Option.some.inj h; omega
  · cases h
theorem num_bad {l : List UInt8} (h : l.all isDig = false) : num l = none := by unfold num; rw [h]; rfl
theorem num_unshaped {l : List UInt8} (h : shaped l = false) : num l = none := by unfold num; rw [h, Bool.and_false]; rfl
theorem num_some {l : List UInt8} (h : l.all isDig = true) (h2 : shaped l = true) : num l = some (min (decN 0 l) 4611686018427387905) := by unfold num; rw [h, h2]; rfl
theorem num_nil : num [] = none := rfl
/-- Atoi at digits. -/
theorem atoi_dec {l : List UInt8} (h : l.all isDig = true) (h0 : l ≠ []) :
    Lib.atoiAll l = if decN 0 l < 9223372036854775808 then .ok (decN 0 l : Int) else .range := by
  cases l with
  | nil => exact absurd rfl h0
  | cons c r =>
    have hc : 48 ≤ c.toNat ∧ c.toNat ≤ 57 := by
      simp only [List.all_cons, Bool.and_eq_true] at h
      exact of_decide_eq_true h.1
    rw [Lib.atoiAll_plain c r (by omega) (by omega)]
    unfold Lib.parseMag
    rw [if_neg h0, parse_dec _ 0 h (by omega)]
    by_cases h1 : decN 0 (c :: r) < 18446744073709551616
    · rw [if_pos h1]
      show (if _ then _ else _) = _
      by_cases h2 : decN 0 (c :: r) < 9223372036854775808
      · rw [if_pos h2, if_neg (by omega)]
      · rw [if_neg h2, if_pos (by omega)]
    · rw [if_neg h1, if_neg (by omega)]
      rfl

theorem decDigits_lt {u : Nat} (h : u < 10) : Lib.decDigits u = [UInt8.ofNat (48 + u)] := by rw [Lib.decDigits, dif_pos h]
theorem decDigits_ge {u : Nat} (h : ¬ u < 10) : Lib.decDigits u = Lib.decDigits (u / 10) ++ [UInt8.ofNat (48 + u % 10)] := by rw [Lib.decDigits, dif_neg h]
theorem decDigits_all (u : Nat) : (Lib.decDigits u).all isDig = true := by
  induction u using Nat.strongRecOn with
  | _ u ih =>
    rw [Lib.decDigits]
    split
    · rename_i h
      simp only [List.all_cons, List.all_nil, Bool.and_true, isDig]
      have : (UInt8.ofNat (48 + u)).toNat = 48 + u := by simp; omega
      rw [this]
      exact decide_eq_true (by omega)
    · rename_i h
      rw [List.all_append, ih _ (by omega)]
      simp only [List.all_cons, List.all_nil, Bool.and_true, isDig, Bool.true_and]
      have : (UInt8.ofNat (48 + u % 10)).toNat = 48 + u % 10 := by simp; omega
      rw [this]
      exact decide_eq_true (by omega)
theorem decDigits_ne (u : Nat) : Lib.decDigits u ≠ [] := by
  rw [Lib.decDigits]
  split <;> simp
theorem decN_decDigits (u : Nat) : decN 0 (Lib.decDigits u) = u := by
  induction u using Nat.strongRecOn with
  | _ u ih =>
    rw [Lib.decDigits]
    split
    · rename_i h
      have : (UInt8.ofNat (48 + u)).toNat = 48 + u := by simp; omega
      rw [decN_cons, decN_nil, this]
      omega
    · rename_i h
      rw [decN_snoc, ih _ (by omega)]
      have : (UInt8.ofNat (48 + u % 10)).toNat = 48 + u % 10 := by simp; omega
      rw [this]
      omega
theorem shaped_snoc {l : List UInt8} (h : shaped l = true) (c : UInt8) (h0 : l ≠ [48]) : shaped (l ++ [c]) = true := by
  cases l with
  | nil => cases h
  | cons a r =>
    unfold shaped at h ⊢
    simp only [Bool.or_eq_true, decide_eq_true_eq, List.isEmpty_iff] at h
    rcases h with h | rfl
    · simp [h]
    · have : a.toNat ≠ 48 := fun e => h0 (by rw [UInt8.toNat_inj.1 (show a.toNat = (48 : UInt8).toNat from e)])
      simp [this]
theorem decDigits_head (u : Nat) (h : 0 < u) : ∃ c r, Lib.decDigits u = c :: r ∧ c.toNat ≠ 48 := by
  induction u using Nat.strongRecOn with
  | _ u ih =>
    rw [Lib.decDigits]
    split
    · exact ⟨_, _, rfl, by simp; omega⟩
    · obtain ⟨c, r, e, hc⟩ := ih (u / 10) (by omega) (by omega)
      rw [e]
      exact ⟨c, _, rfl, hc⟩
theorem decDigits_shaped (u : Nat) : shaped (Lib.decDigits u) = true := by
  by_cases h : 0 < u
  · obtain ⟨c, r, e, hc⟩ := decDigits_head u h
    rw [e]
    simp [shaped, hc]
  · obtain rfl : u = 0 := by omega
    rw [decDigits_lt (by omega)]
    rfl
theorem num_decDigits {u : Nat} (h : u ≤ 4611686018427387905) : num (Lib.decDigits u) = some u := by
  rw [num_some (decDigits_all u) (decDigits_shaped u), decN_decDigits, Nat.min_eq_left h]

/-- Digits that spell a number without a 0 ahead are that number's digits. -/
theorem decDigits_decN : ∀ (l : List UInt8), l.all isDig = true → shaped l = true → Lib.decDigits (decN 0 l) = l := by
  intro l
  induction hn : l.length using Nat.strongRecOn generalizing l with
  | _ n ih =>
    intro hd hs
    rcases List.eq_nil_or_concat l with rfl | ⟨r, c, rfl⟩
    · cases hs
    · simp only [List.concat_eq_append, List.all_append, List.all_cons, List.all_nil, Bool.and_true, Bool.and_eq_true] at hd
      have hc : 48 ≤ c.toNat ∧ c.toNat ≤ 57 := of_decide_eq_true hd.2
      have hcc : UInt8.ofNat c.toNat = c := by simp
      simp only [List.concat_eq_append] at hs hn ⊢
      rw [decN_snoc]
      cases r with
      | nil =>
        rw [decN_nil, List.nil_append, decDigits_lt (by omega)]
        congr 1
        rw [show 48 + (0 * 10 + (c.toNat - 48)) = c.toNat by omega, hcc]
      | cons a r =>
        have hsa : a.toNat ≠ 48 := by
          simp only [shaped, List.cons_append, Bool.or_eq_true, decide_eq_true_eq, List.isEmpty_iff] at hs
          rcases hs with h | h
          · exact h
          · simp at h
        have hda : 48 ≤ a.toNat ∧ a.toNat ≤ 57 := by
          have := hd.1
          simp only [List.all_cons, Bool.and_eq_true] at this
          exact of_decide_eq_true this.1
        have hge := decN_ge r (0 * 10 + (a.toNat - 48))
        have hpos : 1 ≤ decN 0 (a :: r) := by
          rw [decN_cons]
          omega
        rw [decDigits_ge (by omega), show (decN 0 (a :: r) * 10 + (c.toNat - 48)) / 10 = decN 0 (a :: r) by omega,
          ih (a :: r).length (by simp at hn ⊢; omega) (a :: r) rfl hd.1 (by simp [shaped, hsa]),
          show 48 + (decN 0 (a :: r) * 10 + (c.toNat - 48)) % 10 = c.toNat by omega, hcc]
theorem num_back {l : List UInt8} {n : Nat} (h : num l = some n) (hn : n ≤ 4611686018427387904) : Lib.decDigits n = l := by
  unfold num at h
  split at h
  · rename_i h1
    simp only [Bool.and_eq_true] at h1
    have h2 := Option.some.inj h
    have : decN 0 l = n := by omega
    rw [← this]
    exact decDigits_decN l h1.1 h1.2
  · cases h

/-! ### Values -/
/-- A value. -/
structure Val where
  kind : Int
  int : Int
  text : ByteArray
  words : List ByteArray
  deriving DecidableEq
def zero : Val := ⟨0, 0, ByteArray.empty, []⟩

/-- How many a unit stands for. -/
def unit (k : Int) (l : List UInt8) : Int :=
  if k = 3 then (if l = [] then 1 else if l = [107] then 1024 else if l = [109] then 1048576 else if l = [103] then 1073741824 else 0)
  else if k = 4 then (if l = [115] then 1 else if l = [109] then 60 else if l = [104] then 3600 else if l = [100] then 86400 else 0)
  else 0
theorem unit_nonneg (k : Int) (l : List UInt8) : 0 ≤ unit k l ∧ unit k l ≤ 1073741824 := by
  unfold unit
  repeat' split
  all_goals omega
def least (k : Int) : Int := if k = 2 then -4611686018427387904 else 0
def most (k : Int) : Int := if k = 1 then 1 else if k = 2 then 4611686018427387904 else if k = 3 then 1125899906842624 else if k = 4 then 1099511627776 else 0
def prn (b : UInt8) : Bool := decide (32 ≤ b.toNat ∧ b.toNat ≤ 126)

/-- How many digits stand ahead. -/
def digs : List UInt8 → Nat
  | [] => 0
  | c :: r => if isDig c then digs r + 1 else 0
theorem digs_le : ∀ l : List UInt8, digs l ≤ l.length
  | [] => Nat.le_refl _
  | c :: r => by
    have := digs_le r
    unfold digs
    split <;> simp <;> omega
theorem digs_at {l : List UInt8} {k : Nat} (h : ∀ j b, j < k → l[j]? = some b → isDig b = true) (hk : k ≤ l.length) (he : ∀ b, l[k]? = some b → isDig b = false) : digs l = k := by
  induction l generalizing k with
  | nil => simp at hk; simp [digs, hk]
  | cons c r ih =>
    cases k with
    | zero =>
      have := he c rfl
      simp [digs, this]
    | succ k =>
      have h0 := h 0 c (by omega) rfl
      unfold digs
      rw [if_pos h0, ih (k := k) (fun j b hj hb => h (j + 1) b (by omega) (by simpa using hb)) (by simpa using hk) (fun b hb => he b (by simpa using hb))]
theorem digs_take : ∀ l : List UInt8, (l.take (digs l)).all isDig = true
  | [] => rfl
  | c :: r => by
    unfold digs
    split
    · rename_i h
      simp [h, digs_take r]
    · rfl

/-- A text of a whole number. -/
def parseInt (l : List UInt8) : Val × Int :=
  let neg := l.head? = some 45
  match num (if neg then l.tail else l) with
  | none => (zero, 40)
  | some n => if neg ∧ n = 0 then (zero, 40) else if 4611686018427387904 < n then (zero, 41) else (⟨2, if neg then -(n : Int) else n, ByteArray.empty, []⟩, 0)
/-- How many the unit behind the digits stands for. -/
def tail (k : Int) (l : List UInt8) : Int := if k = 4 ∧ l = [48] then 1 else unit k (l.drop (digs l))
/-- A text of a number with a unit. -/
def parseUnit (k : Int) (l : List UInt8) : Val × Int :=
  match num (l.take (digs l)) with
  | none => (zero, 40)
  | some n => if tail k l = 0 then (zero, 40) else if most k / tail k l < n then (zero, 41) else (⟨k, n * tail k l, ByteArray.empty, []⟩, 0)
def parseText (l : List UInt8) : Val × Int :=
  if l.all prn then (if 200 < l.length then (zero, 42) else (⟨5, 0, B l, []⟩, 0)) else (zero, 40)
/-- isW: what is a word. -/
def parseWords (isW : List UInt8 → Bool) (l : List UInt8) : Val × Int :=
  if l = [] then (⟨6, 0, ByteArray.empty, []⟩, 0)
  else if (pcs 44 l).all isW then (if 200 < l.length ∨ 16 < (pcs 44 l).length then (zero, 42) else (⟨6, 0, ByteArray.empty, (pcs 44 l).map B⟩, 0))
  else (zero, 40)
def yes (l : List UInt8) : Bool := decide (l = [116, 114, 117, 101] ∨ l = [121, 101, 115] ∨ l = [111, 110])
def no (l : List UInt8) : Bool := decide (l = [102, 97, 108, 115, 101] ∨ l = [110, 111] ∨ l = [111, 102, 102])
def parseBool (l : List UInt8) : Val × Int :=
  if yes l then (⟨1, 1, ByteArray.empty, []⟩, 0) else if no l then (⟨1, 0, ByteArray.empty, []⟩, 0) else (zero, 40)
def parse (isW : List UInt8 → Bool) (k : Int) (l : List UInt8) : Val × Int :=
  if k = 1 then parseBool l else if k = 2 then parseInt l else if k = 3 ∨ k = 4 then parseUnit k l else if k = 5 then parseText l else if k = 6 then parseWords isW l else (zero, 1)

def joined (ws : List ByteArray) : List UInt8 := Lib.join (ws.map (·.data.toList)) [44]
/-- May a value be? -/
def right (isW : List UInt8 → Bool) (v : Val) : Bool :=
  (decide (v.kind = 5) || decide (v.text = ByteArray.empty)) && (decide (v.kind = 6) || v.words.isEmpty) &&
  (decide (least v.kind ≤ v.int) && decide (v.int ≤ most v.kind)) &&
  (decide (v.kind = 1 ∨ v.kind = 2 ∨ v.kind = 3 ∨ v.kind = 4) ||
   (decide (v.kind = 5) && (decide (v.text.size ≤ 200) && v.text.data.toList.all prn)) ||
   (decide (v.kind = 6) && (decide (v.words.length ≤ 16) && v.words.all (fun x => isW x.data.toList) && decide ((joined v.words).length ≤ 200))))
/-- The names of the units, the least first. -/
def uname (k : Int) (i : Nat) : List UInt8 :=
  if k = 3 then (match i with | 0 => [] | 1 => [107] | 2 => [109] | _ => [103]) else (match i with | 0 => [115] | 1 => [109] | 2 => [104] | _ => [100])
/-- The greatest unit of which a number is a multiple. -/
def best (k : Int) (n : Int) : Nat :=
  if n = 0 then 0 else if n % unit k (uname k 3) = 0 then 3 else if n % unit k (uname k 2) = 0 then 2 else if n % unit k (uname k 1) = 0 then 1 else 0
def prints (v : Val) : List UInt8 :=
  if v.kind = 1 then (if v.int = 1 then [116, 114, 117, 101] else [102, 97, 108, 115, 101])
  else if v.kind = 2 then Lib.itoa v.int
  else if v.kind = 5 then v.text.data.toList
  else if v.kind = 6 then joined v.words
  else Lib.itoa (v.int / unit v.kind (uname v.kind (best v.kind v.int))) ++ uname v.kind (best v.kind v.int)
def print (isW : List UInt8 → Bool) (v : Val) : List UInt8 × Int := if right isW v then (prints v, 0) else ([], 1)
def within (isW : List UInt8 → Bool) (v : Val) (lo hi : Int) : Bool :=
  right isW v && (if v.kind = 2 ∨ v.kind = 3 ∨ v.kind = 4 then decide (lo ≤ v.int ∧ v.int ≤ hi) else if v.kind = 6 then decide (lo ≤ v.words.length ∧ (v.words.length : Int) ≤ hi) else true)
end Go.Proofs.YthjcifokmcbaoaaGreatDoor.va
/- Chapter 16 in plain words: pairs, steps, and what a step makes of pairs, said twice: as the document says it, and as the program makes it. No program in sight beside the words of chapters 2, 4 and 6; no conditions beside those stated. -/
namespace Go.Proofs.YthjcifokmcbaoaaGreatDoor.st
open gl

/-! ### The order of texts -/
abbrev ltL : List UInt8 → List UInt8 → Bool := Op.bytesLess
theorem ltL_nil (a : List UInt8) : ltL a [] = false := by cases a <;> rfl
theorem ltL_cons (a b : UInt8) (x y : List UInt8) : ltL (a :: x) (b :: y) = (decide (a < b) || (a == b && ltL x y)) := rfl
theorem ltL_irrefl : ∀ a : List UInt8, ltL a a = false
  | [] => rfl
  | a :: x => by rw [ltL_cons, ltL_irrefl x]; simp
theorem ltL_trans : ∀ a b c : List UInt8, ltL a b = true → ltL b c = true → ltL a c = true
  | _, [], _, h, _ => by rw [ltL_nil] at h; cases h
  | _, _ :: _, [], _, h => by rw [ltL_nil] at h; cases h
  | [], _ :: _, _ :: _, _, _ => rfl
  | a :: x, b :: y, c :: z, h1, h2 => by
    rw [ltL_cons] at h1 h2 ⊢
    simp only [Bool.or_eq_true, decide_eq_true_eq, Bool.and_eq_true, beq_iff_eq, UInt8.lt_iff_toNat_lt] at h1 h2 ⊢
    rcases h1 with h1 | ⟨rfl, h1⟩
    · rcases h2 with h2 | ⟨rfl, h2⟩
      · exact .inl (by omega)
      · exact .inl h1
    · rcases h2 with h2 | ⟨rfl, h2⟩
      · exact .inl h2
      · exact .inr ⟨rfl, ltL_trans x y z h1 h2⟩
theorem ltL_total : ∀ a b : List UInt8, ltL a b = false → ltL b a = false → a = b
  | [], [], _, _ => rfl
  | [], _ :: _, h, _ => by cases h
  | _ :: _, [], _, h => by cases h
  | a :: x, b :: y, h1, h2 => by
    rw [ltL_cons] at h1 h2
    simp only [Bool.or_eq_false_iff, decide_eq_false_iff_not, Bool.and_eq_false_iff, beq_eq_false_iff_ne, UInt8.lt_iff_toNat_lt] at h1 h2
    obtain rfl : a = b := UInt8.toNat_inj.1 (by omega)
    rw [ltL_total x y (by rcases h1.2 with h | h; exact absurd rfl h; exact h) (by rcases h2.2 with h | h; exact absurd rfl h; exact h)]

/-! ### Pairs -/
structure Pr where
  table : List UInt8
  key : List UInt8
  value : List UInt8
def ltP (a b : Pr) : Bool := ltL a.table b.table || (decide (a.table = b.table) && ltL a.key b.key)
theorem ltP_irrefl (a : Pr) : ltP a a = false := by unfold ltP; rw [ltL_irrefl, ltL_irrefl]; simp
theorem ltP_trans {a b c : Pr} (h1 : ltP a b = true) (h2 : ltP b c = true) : ltP a c = true := by
  unfold ltP at *
  simp only [Bool.or_eq_true, Bool.and_eq_true, decide_eq_true_eq] at *
  rcases h1 with h1 | ⟨e1, h1⟩
  · rcases h2 with h2 | ⟨e2, h2⟩
    · exact .inl (ltL_trans _ _ _ h1 h2)
    · exact .inl (by rw [← e2]; exact h1)
  · rcases h2 with h2 | ⟨e2, h2⟩
    · exact .inl (by rw [e1]; exact h2)
    · exact .inr ⟨e1.trans e2, ltL_trans _ _ _ h1 h2⟩
theorem ltP_total {a b : Pr} (h1 : ltP a b = false) (h2 : ltP b a = false) : a.table = b.table ∧ a.key = b.key := by
  unfold ltP at *
  simp only [Bool.or_eq_false_iff, Bool.and_eq_false_iff, decide_eq_false_iff_not] at *
  have e := ltL_total _ _ h1.1 h2.1
  exact ⟨e, ltL_total _ _ (by rcases h1.2 with h | h; exact absurd e h; exact h) (by rcases h2.2 with h | h; exact absurd e.symm h; exact h)⟩
theorem ltP_ne {a b : Pr} (h : ltP a b = true) : ¬ (a.table = b.table ∧ a.key = b.key) := by
  rintro ⟨h1, h2⟩
  unfold ltP at h
  rw [h1, h2, ltL_irrefl, ltL_irrefl] at h
  simp at h
theorem ltP_of {a b : Pr} (h : ltP a b = false) (hn : ¬ (a.table = b.table ∧ a.key = b.key)) : ltP b a = true := by
  cases h2 : ltP b a with
  | true => rfl
  | false => exact absurd (ltP_total h h2) hn
theorem ltP_keys {a b a' b' : Pr} (h1 : a.table = a'.table) (h2 : a.key = a'.key) (h3 : b.table = b'.table) (h4 : b.key = b'.key) : ltP a b = ltP a' b' := by unfold ltP; rw [h1, h2, h3, h4]
def Asc (l : List Pr) : Prop := l.Pairwise fun a b => ltP a b = true
def wordP (p : Pr) : Bool := wordL p.table && wordL p.key && decide (p.value.length ≤ 200)
def ascB : List Pr → Bool
  | [] => true
  | a :: r => (match r with | [] => true | b :: _ => ltP a b) && ascB r
def mayL (l : List Pr) : Bool := decide (l.length ≤ 500) && l.all wordP && ascB l
theorem asc_of : ∀ l : List Pr, ascB l = true → Asc l
  | [], _ => List.Pairwise.nil
  | [a], _ => List.pairwise_singleton _ _
  | a :: b :: r, h => by
    unfold ascB at h
    simp only [Bool.and_eq_true] at h
    have ih := asc_of (b :: r) h.2
    refine List.Pairwise.cons ?_ ih
    intro c hc
    rcases List.mem_cons.1 hc with rfl | hc
    · exact h.1
    · exact ltP_trans h.1 (List.rel_of_pairwise_cons ih hc)
theorem asc_to : ∀ l : List Pr, Asc l → ascB l = true
  | [], _ => rfl
  | [a], _ => rfl
  | a :: b :: r, h => by
    unfold ascB
    rw [asc_to (b :: r) (List.pairwise_cons.1 h).2, Bool.and_true]
    exact (List.pairwise_cons.1 h).1 b (by simp)
theorem may_parts {l : List Pr} (h : mayL l = true) : l.length ≤ 500 ∧ (∀ p ∈ l, wordL p.table = true ∧ wordL p.key = true ∧ p.value.length ≤ 200) ∧ Asc l := by
  unfold mayL at h
  simp only [Bool.and_eq_true, decide_eq_true_eq, List.all_eq_true] at h
  refine ⟨h.1.1, fun p hp => ?_, asc_of l h.2⟩
  have := h.1.2 p hp
  unfold wordP at this
  simp only [Bool.and_eq_true, decide_eq_true_eq] at this
  exact ⟨this.1.1, this.1.2, this.2⟩
theorem may_of {l : List Pr} (h : l.length ≤ 500) (h2 : ∀ p ∈ l, wordP p = true) (h3 : Asc l) : mayL l = true := by
  unfold mayL
  simp only [Bool.and_eq_true, decide_eq_true_eq, List.all_eq_true]
  exact ⟨⟨h, h2⟩, asc_to l h3⟩
/-- The pairs ahead of k are well, each behind the one ahead of it. -/
def okTo (l : List Pr) (k : Nat) : Prop := ∀ (j : Nat) (p : Pr), j < k → l[j]? = some p → wordP p = true ∧ ∀ q, 0 < j → l[j - 1]? = some q → ltP q p = true
theorem okTo_succ {l : List Pr} {k : Nat} {p : Pr} (h : okTo l k) (hp : l[k]? = some p) (hw : wordP p = true) (hq : ∀ q, 0 < k → l[k - 1]? = some q → ltP q p = true) : okTo l (k + 1) := by
  intro j x hj hx
  by_cases e : j = k
  · subst e
    obtain rfl := Option.some.inj (hp.symm.trans hx)
    exact ⟨hw, hq⟩
  · exact h j x (by omega) hx
theorem ascB_at : ∀ (l : List Pr) (k : Nat) (p q : Pr), ascB l = true → l[k]? = some q → l[k + 1]? = some p → ltP q p = true
  | [], k, p, q, _, h, _ => by simp at h
  | [a], k, p, q, _, _, h => by simp at h
  | a :: b :: r, 0, p, q, h, h1, h2 => by
    unfold ascB at h
    simp only [Bool.and_eq_true] at h
    simp at h1 h2
    subst h1 h2
    exact h.1
  | a :: b :: r, k + 1, p, q, h, h1, h2 => by
    unfold ascB at h
    simp only [Bool.and_eq_true] at h
    exact ascB_at (b :: r) k p q h.2 (by simpa using h1) (by simpa using h2)
theorem may_bad {l : List Pr} {k : Nat} {p : Pr} (hp : l[k]? = some p) (h : wordP p = false ∨ ∃ q, 0 < k ∧ l[k - 1]? = some q ∧ ltP q p = false) : mayL l = false := by
  cases hm : mayL l with
  | false => rfl
  | true =>
    unfold mayL at hm
    simp only [Bool.and_eq_true, decide_eq_true_eq, List.all_eq_true] at hm
    rcases h with h | ⟨q, hk, hq, h⟩
    · rw [hm.1.2 p (List.mem_of_getElem? hp)] at h; cases h
    · have := ascB_at l (k - 1) p q hm.2 hq (by rw [show k - 1 + 1 = k by omega]; exact hp)
      rw [this] at h; cases h
theorem ascB_of_at : ∀ (l : List Pr), (∀ (k : Nat) (p q : Pr), l[k]? = some q → l[k + 1]? = some p → ltP q p = true) → ascB l = true
  | [], _ => rfl
  | [a], _ => rfl
  | a :: b :: r, h => by
    unfold ascB
    rw [ascB_of_at (b :: r) fun k p q h1 h2 => h (k + 1) p q (by simpa using h1) (by simpa using h2), Bool.and_true]
    exact h 0 b a rfl rfl
theorem lt_of_at {α : Type} {l : List α} {j : Nat} {c : α} (h : l[j]? = some c) : j < l.length := by
  rcases Nat.lt_or_ge j l.length with h1 | h1
  · exact h1
  · rw [List.getElem?_eq_none h1] at h; cases h
theorem may_end {l : List Pr} (h : okTo l l.length) : mayL l = decide (l.length ≤ 500) := by
  have h1 : l.all wordP = true := by
    rw [List.all_eq_true]
    intro p hp
    obtain ⟨j, hj⟩ := List.mem_iff_getElem?.1 hp
    exact (h j p (lt_of_at hj) hj).1
  have h2 : ascB l = true := ascB_of_at l fun k p q hq hp => (h (k + 1) p (lt_of_at hp) hp).2 q (by omega) (by simpa using hq)
  unfold mayL
  rw [h1, h2, Bool.and_true, Bool.and_true]
/-- Lists of pairs that hold the same and ascend are one. -/
theorem asc_unique : ∀ {a b : List Pr}, Asc a → Asc b → a.Perm b → a = b
  | [], b, _, _, h => (List.nil_perm.1 h).symm
  | x :: a, [], _, _, h => absurd h.symm (by intro h; exact absurd (List.nil_perm.1 h) (by simp))
  | x :: a, y :: b, ha, hb, h => by
    have hx : x = y := by
      have h1 : x ∈ y :: b := h.subset (by simp)
      have h2 : y ∈ x :: a := h.symm.subset (by simp)
      rcases List.mem_cons.1 h1 with e | h1
      · exact e
      · rcases List.mem_cons.1 h2 with e | h2
        · exact e.symm
        · have := ltP_trans (List.rel_of_pairwise_cons ha h2) (List.rel_of_pairwise_cons hb h1)
          rw [ltP_irrefl] at this; cases this
    subst hx
    rw [asc_unique (List.pairwise_cons.1 ha).2 (List.pairwise_cons.1 hb).2 ((List.perm_cons x).1 h)]
theorem asc_distinct {a : List Pr} (ha : Asc a) {b : List Pr} (h : a.Perm b) : b.Pairwise fun x y => ¬ (x.table = y.table ∧ x.key = y.key) := by
  have h1 : a.Pairwise fun x y => ¬ (x.table = y.table ∧ x.key = y.key) := List.Pairwise.imp (fun h => ltP_ne h) ha
  exact (h.pairwise_iff (fun h1 h2 => h1 ⟨h2.1.symm, h2.2.symm⟩)).1 h1

/-! ### Steps and functions -/
structure Sp where
  kind : Int
  table : List UInt8
  key : List UInt8
  to : List UInt8
  text : List UInt8
def nDouble : List UInt8 := [100, 111, 117, 98, 108, 101]
def nLower : List UInt8 := [108, 111, 119, 101, 114]
def nReverse : List UInt8 := [114, 101, 118, 101, 114, 115, 101]
def nTrim : List UInt8 := [116, 114, 105, 109]
def nUpper : List UInt8 := [117, 112, 112, 101, 114]
def fnL (t : List UInt8) : Bool := decide (t = nDouble ∨ t = nLower ∨ t = nReverse ∨ t = nTrim ∨ t = nUpper)
def upB (b : UInt8) : UInt8 := if 97 ≤ b.toNat ∧ b.toNat ≤ 122 then UInt8.ofNat (b.toNat - 32) else b
def upL (l : List UInt8) : List UInt8 := l.map upB
def dblL (v : List UInt8) : Option (List UInt8) := match va.num v with
  | none => none
  | some n => if n ≤ 2147483648 then some (Lib.decDigits (2 * n)) else none
def funL (t v : List UInt8) : Option (List UInt8) :=
  if t = nDouble then dblL v else if t = nLower then some (foldL v) else if t = nReverse then some v.reverse else if t = nTrim then some (ini.tri v) else some (upL v)
def callL (t v : List UInt8) : List UInt8 × Int := if fnL t = true then (if v.length ≤ 200 then (match funL t v with | none => ([], 162) | some u => (u, 0)) else ([], 162)) else ([], 160)
def rightL (s : Sp) : Bool := wordL s.table && (
  if s.kind = 1 then wordL s.key && s.to.isEmpty && decide (s.text.length ≤ 200)
  else if s.kind = 2 then (wordL s.key || s.key.isEmpty) && s.to.isEmpty && s.text.isEmpty
  else if s.kind = 3 ∨ s.kind = 6 then wordL s.key && wordL s.to && s.text.isEmpty
  else if s.kind = 4 then s.key.isEmpty && wordL s.to && s.text.isEmpty
  else if s.kind = 5 then s.key.isEmpty && s.to.isEmpty && fnL s.text else false)
def isAt (t k : List UInt8) (p : Pr) : Bool := decide (p.table = t) && decide (p.key = k)
def idxL (l : List Pr) (t k : List UInt8) : Option Nat := l.findIdx? (isAt t k)
def goes (t k : List UInt8) (p : Pr) : Bool := decide (p.table = t) && (k.isEmpty || decide (p.key = k))
def butL (l : List Pr) (t k : List UInt8) : List Pr := l.filter fun p => !goes t k p
def tabF (t u : List UInt8) (p : Pr) : Pr := if p.table = t then { p with table := u } else p
def mapF (t f : List UInt8) : List Pr → Option (List Pr)
  | [] => some []
  | p :: r => if p.table = t then (match funL f p.value with
      | none => none
      | some v => (mapF t f r).map fun q => { p with value := v } :: q) else (mapF t f r).map fun q => p :: q
/-- As the program makes it. -/
def madeL (l : List Pr) (s : Sp) : List Pr × Int :=
  if s.kind = 1 then (if (idxL l s.table s.key).isSome then ([], 161) else (l ++ [⟨s.table, s.key, s.text⟩], 0))
  else if s.kind = 2 then (butL l s.table s.key, 0)
  else if s.kind = 3 ∨ s.kind = 6 then (match idxL l s.table s.key with
    | none => (l, 0)
    | some i => if (idxL l s.table s.to).isSome then ([], 161) else match l[i]? with
      | none => (l, 0)
      | some p => if s.kind = 6 then (l ++ [⟨s.table, s.to, p.value⟩], 0) else (l.set i { p with key := s.to }, 0))
  else if s.kind = 4 then (if l.any (fun p => decide (p.table = s.table)) = true then (if l.any (fun p => decide (p.table = s.to)) = true then ([], 161) else (l.map (tabF s.table s.to), 0)) else (l, 0))
  else match mapF s.table s.text l with
    | none => ([], 162)
    | some q => (q, 0)
/-- A pair, where it belongs. -/
def withL (p : Pr) : List Pr → List Pr
  | [] => [p]
  | x :: r => if ltP x p = true then x :: withL p r else p :: x :: r
def tabW (t u : List UInt8) (rest : List Pr) : List Pr → List Pr
  | [] => rest
  | p :: r => if p.table = t then tabW t u (withL ⟨u, p.key, p.value⟩ rest) r else tabW t u rest r
/-- As the document says it. -/
def doesL (l : List Pr) (s : Sp) : List Pr × Int :=
  if s.kind = 1 then (if (idxL l s.table s.key).isSome then ([], 161) else (withL ⟨s.table, s.key, s.text⟩ l, 0))
  else if s.kind = 2 then (butL l s.table s.key, 0)
  else if s.kind = 4 then (if (butL l s.table []).length = l.length then (l, 0) else if (butL l s.to []).length < l.length then ([], 161) else (tabW s.table s.to (butL l s.table []) l, 0))
  else if s.kind = 5 then (match mapF s.table s.text l with
    | none => ([], 162)
    | some q => (q, 0))
  else (match idxL l s.table s.key with
    | none => (l, 0)
    | some i => if (idxL l s.table s.to).isSome then ([], 161) else match l[i]? with
      | none => (l, 0)
      | some p => (withL ⟨s.table, s.to, p.value⟩ (if s.kind = 3 then butL l s.table s.key else l), 0))
def applyL (l : List Pr) (s : Sp) : List Pr × Int :=
  if mayL l = true then (if rightL s = true then (if (doesL l s).2 = 0 then (if (doesL l s).1.length ≤ 500 then ((doesL l s).1, 0) else ([], 163)) else ([], (doesL l s).2)) else ([], 160)) else ([], 1)

/-! ### The two say the same -/
theorem withL_perm (p : Pr) : ∀ l : List Pr, (withL p l).Perm (p :: l)
  | [] => List.Perm.refl _
  | x :: r => by
    unfold withL
    split
    · exact ((withL_perm p r).cons x).trans (List.Perm.swap p x r)
    · exact List.Perm.refl _
theorem withL_mem {p q : Pr} {l : List Pr} : q ∈ withL p l ↔ q = p ∨ q ∈ l := by rw [(withL_perm p l).mem_iff, List.mem_cons]
theorem withL_asc {p : Pr} : ∀ {l : List Pr}, Asc l → (∀ x ∈ l, ¬ (x.table = p.table ∧ x.key = p.key)) → Asc (withL p l)
  | [], _, _ => List.pairwise_singleton _ _
  | x :: r, ha, hn => by
    unfold withL
    obtain ⟨h1, h2⟩ := List.pairwise_cons.1 ha
    split
    · rename_i hx
      refine List.Pairwise.cons ?_ (withL_asc h2 fun y hy => hn y (by simp [hy]))
      intro y hy
      rcases withL_mem.1 hy with rfl | hy
      · exact hx
      · exact h1 y hy
    · rename_i hx
      have hp : ltP p x = true := ltP_of (by simpa using hx) (hn x (by simp))
      refine List.Pairwise.cons ?_ ha
      intro y hy
      rcases List.mem_cons.1 hy with rfl | hy
      · exact hp
      · exact ltP_trans hp (h1 y hy)
theorem withL_at (p : Pr) : ∀ (l : List Pr) (i : Nat), i ≤ l.length → (∀ (j : Nat) (x : Pr), j < i → l[j]? = some x → ltP x p = true) → (∀ x, l[i]? = some x → ltP x p = false) → withL p l = l.take i ++ p :: l.drop i
  | [], i, _, _, _ => by simp [withL]
  | x :: r, 0, _, _, h => by
    unfold withL
    rw [if_neg (by simp [h x rfl])]
    rfl
  | x :: r, i + 1, hi, h1, h2 => by
    unfold withL
    rw [if_pos (h1 0 x (by omega) rfl), withL_at p r i (by simpa using hi) (fun j y hj hy => h1 (j + 1) y (by omega) (by simpa using hy)) (fun y hy => h2 y (by simpa using hy))]
    rfl
theorem idx_some {l : List Pr} {t k : List UInt8} {i : Nat} (h : idxL l t k = some i) : ∃ p, l[i]? = some p ∧ p.table = t ∧ p.key = k ∧ ∀ (j : Nat) (q : Pr), j < i → l[j]? = some q → ¬ (q.table = t ∧ q.key = k) := by
  unfold idxL at h
  obtain ⟨hi, h1, h2⟩ := List.findIdx?_eq_some_iff_getElem.1 h
  unfold isAt at h1
  simp only [Bool.and_eq_true, decide_eq_true_eq] at h1
  refine ⟨l[i], List.getElem?_eq_getElem hi, h1.1, h1.2, fun j q hj hq => ?_⟩
  have := h2 j hj
  rw [List.getElem?_eq_getElem (by omega)] at hq
  obtain rfl := Option.some.inj hq
  unfold isAt at this
  simpa using this
theorem idx_none {l : List Pr} {t k : List UInt8} (h : idxL l t k = none) : ∀ p ∈ l, ¬ (p.table = t ∧ p.key = k) := by
  unfold idxL at h
  rw [List.findIdx?_eq_none_iff] at h
  intro p hp
  have := h p hp
  unfold isAt at this
  simpa using this
theorem idx_is_some {l : List Pr} {t k : List UInt8} {i : Nat} {p : Pr} (hp : l[i]? = some p) (h1 : p.table = t) (h2 : p.key = k) (h : ∀ (j : Nat) (q : Pr), j < i → l[j]? = some q → ¬ (q.table = t ∧ q.key = k)) : idxL l t k = some i := by
  unfold idxL
  have hi := lt_of_at hp
  rw [List.findIdx?_eq_some_iff_getElem]
  refine ⟨hi, ?_, fun j hj => ?_⟩
  · rw [List.getElem?_eq_getElem hi] at hp
    obtain rfl := Option.some.inj hp
    simp [isAt, h1, h2]
  · have := h j l[j] hj (List.getElem?_eq_getElem _)
    simpa [isAt] using this
theorem idx_is_none {l : List Pr} {t k : List UInt8} (h : ∀ (j : Nat) (q : Pr), l[j]? = some q → ¬ (q.table = t ∧ q.key = k)) : idxL l t k = none := by
  unfold idxL
  rw [List.findIdx?_eq_none_iff]
  intro p hp
  obtain ⟨j, hj⟩ := List.mem_iff_getElem?.1 hp
  have := h j p hj
  simpa [isAt] using this
theorem but_asc {l : List Pr} (h : Asc l) (t k : List UInt8) : Asc (butL l t k) := List.Pairwise.filter _ h
theorem get_split {α : Type} {l : List α} {i : Nat} {p : α} (h : l[i]? = some p) : l = l.take i ++ p :: l.drop (i + 1) := by
  have hi := lt_of_at h
  rw [List.getElem?_eq_getElem hi] at h
  obtain rfl := Option.some.inj h
  rw [← List.drop_eq_getElem_cons hi, List.take_append_drop]
theorem asc_apart {a b : List Pr} {p : Pr} (h : Asc (a ++ p :: b)) : (∀ x ∈ a, ltP x p = true) ∧ ∀ x ∈ b, ltP p x = true := by
  obtain ⟨_, h2, h3⟩ := List.pairwise_append.1 h
  exact ⟨fun x hx => h3 x hx p (by simp), (List.pairwise_cons.1 h2).1⟩
/-- What a key's row is without it. -/
theorem but_at {l : List Pr} {i : Nat} {p : Pr} {t k : List UInt8} (ha : Asc l) (hp : l[i]? = some p) (h1 : p.table = t) (h2 : p.key = k) (hk : k ≠ []) : butL l t k = l.take i ++ l.drop (i + 1) := by
  have e := get_split hp
  have ha' := ha
  rw [e] at ha'
  obtain ⟨hx, hy⟩ := asc_apart ha'
  have hk' : k.isEmpty = false := by cases k; exact absurd rfl hk; rfl
  have hg : goes t k p = true := by unfold goes; simp [h1, h2]
  have keep : ∀ m : List Pr, (∀ x ∈ m, ¬ (x.table = t ∧ x.key = k)) → m.filter (fun p => !goes t k p) = m := by
    intro m hm
    rw [List.filter_eq_self]
    intro x hxm
    have := hm x hxm
    unfold goes
    rw [hk', Bool.false_or]
    by_cases h1 : x.table = t
    · have h2 : ¬ x.key = k := fun e => this ⟨h1, e⟩
      simp [h2]
    · simp [h1]
  unfold butL
  conv => lhs; rw [e]
  rw [List.filter_append, List.filter_cons, if_neg (by simp [hg]), keep _ fun x hx' hc => ltP_ne (hx x hx') ⟨hc.1.trans h1.symm, hc.2.trans h2.symm⟩,
    keep _ fun x hx' hc => ltP_ne (hy x hx') ⟨h1.trans hc.1.symm, h2.trans hc.2.symm⟩]
theorem set_perm {α : Type} {l : List α} {i : Nat} {p q : α} (hp : l[i]? = some p) : (l.set i q).Perm (q :: (l.take i ++ l.drop (i + 1))) := by
  have hi := lt_of_at hp
  rw [List.set_eq_take_append_cons_drop, if_pos hi]
  exact List.perm_middle
theorem tabW_spec (t u : List UInt8) : ∀ (l rest : List Pr), Asc rest → (l.Pairwise fun x y => ¬ (x.table = y.table ∧ x.key = y.key)) → (∀ x ∈ l, x.table = t → ∀ y ∈ rest, ¬ (y.table = u ∧ y.key = x.key)) →
    (tabW t u rest l).Perm (rest ++ (l.filter fun p => decide (p.table = t)).map (tabF t u)) ∧ Asc (tabW t u rest l)
  | [], rest, ha, _, _ => ⟨by simp [tabW], ha⟩
  | p :: r, rest, ha, hd, hn => by
    obtain ⟨hd1, hd2⟩ := List.pairwise_cons.1 hd
    unfold tabW
    split
    · rename_i hp
      obtain ⟨h1, h2⟩ := tabW_spec t u r (withL ⟨u, p.key, p.value⟩ rest) (withL_asc ha fun x hx hc => hn p (by simp) hp x hx hc) hd2 (by
        intro x hx hxt y hy hc
        rcases withL_mem.1 hy with rfl | hy
        · exact hd1 x hx ⟨hp.trans hxt.symm, hc.2⟩
        · exact hn x (by simp [hx]) hxt y hy hc)
      refine ⟨h1.trans ?_, h2⟩
      rw [List.filter_cons, if_pos (by simp [hp]), List.map_cons, show tabF t u p = ⟨u, p.key, p.value⟩ by unfold tabF; rw [if_pos hp]]
      exact ((withL_perm _ rest).append_right _).trans List.perm_middle.symm
    · rename_i hp
      rw [List.filter_cons, if_neg (by simp [hp])]
      exact tabW_spec t u r rest ha hd2 fun x hx => hn x (by simp [hx])
theorem but_len {l : List Pr} {t : List UInt8} : ((butL l t []).length = l.length ↔ l.any (fun p => decide (p.table = t)) = false) ∧ ((butL l t []).length < l.length ↔ l.any (fun p => decide (p.table = t)) = true) := by
  have hle : (butL l t []).length ≤ l.length := List.length_filter_le _ _
  have h1 : (butL l t []).length = l.length ↔ l.any (fun p => decide (p.table = t)) = false := by
    unfold butL
    rw [List.length_filter_eq_length_iff, List.any_eq_false]
    simp [goes]
  refine ⟨h1, ?_⟩
  cases h : l.any (fun p => decide (p.table = t)) with
  | false => rw [h1.2 h]; simp
  | true =>
    have : (butL l t []).length ≠ l.length := fun e => by rw [h1.1 e] at h; cases h
    simp only [iff_true]
    omega
theorem mapF_keys (t f : List UInt8) : ∀ (l q : List Pr), mapF t f l = some q → q.map (fun p => (p.table, p.key)) = l.map fun p => (p.table, p.key)
  | [], q, h => by simp [mapF] at h; subst h; rfl
  | p :: r, q, h => by
    unfold mapF at h
    split at h
    · split at h
      · cases h
      · cases hr : mapF t f r with
        | none => rw [hr] at h; cases h
        | some q' =>
          rw [hr] at h
          simp at h
          subst h
          simp [mapF_keys t f r q' hr]
    · cases hr : mapF t f r with
      | none => rw [hr] at h; cases h
      | some q' =>
        rw [hr] at h
        simp at h
        subst h
        simp [mapF_keys t f r q' hr]
theorem asc_keys {a b : List Pr} (h : a.map (fun p => (p.table, p.key)) = b.map fun p => (p.table, p.key)) (hb : Asc b) : Asc a := by
  have e : ∀ l : List Pr, Asc l ↔ (l.map fun p => (p.table, p.key)).Pairwise fun x y => (ltL x.1 y.1 || (decide (x.1 = y.1) && ltL x.2 y.2)) = true := fun l => by rw [List.pairwise_map]; rfl
  rw [e, h, ← e]
  exact hb
theorem made_does {l : List Pr} {s : Sp} (ha : Asc l) (hr : rightL s = true) : (madeL l s).2 = (doesL l s).2 ∧ ((doesL l s).2 = 0 → (madeL l s).1.Perm (doesL l s).1 ∧ Asc (doesL l s).1) ∧ ((doesL l s).2 ≠ 0 → (madeL l s).1 = []) := by
  unfold rightL at hr
  simp only [Bool.and_eq_true] at hr
  obtain ⟨_, hr⟩ := hr
  by_cases k1 : s.kind = 1
  · simp only [madeL, doesL, k1, if_true]
    cases h : idxL l s.table s.key with
    | some i => simp
    | none =>
      simp only [Option.isSome_none, Bool.false_eq_true, if_false]
      refine ⟨trivial, fun _ => ⟨?_, withL_asc ha fun x hx => idx_none h x hx⟩, fun h => absurd rfl h⟩
      exact (List.perm_append_comm).trans (withL_perm _ l).symm
  · by_cases k2 : s.kind = 2
    · simp only [madeL, doesL, k2, if_true]
      simp only [show ¬ ((2 : Int) = 1) by decide, if_false]
      exact ⟨trivial, fun _ => ⟨List.Perm.refl _, but_asc ha _ _⟩, fun h => absurd rfl h⟩
    · by_cases k4 : s.kind = 4
      · simp only [madeL, doesL, k4, show ¬ ((4 : Int) = 1) by decide, show ¬ ((4 : Int) = 2) by decide, show ¬ ((4 : Int) = 3 ∨ (4 : Int) = 6) by decide, if_false, if_true]
        cases h : l.any (fun p => decide (p.table = s.table)) with
        | false =>
          rw [if_pos (but_len.1.2 h)]
          simp only [Bool.false_eq_true, if_false]
          exact ⟨trivial, fun _ => ⟨List.Perm.refl _, ha⟩, fun h => absurd rfl h⟩
        | true =>
          have n1 : ¬ ((butL l s.table []).length = l.length) := fun e => by rw [but_len.1.1 e] at h; cases h
          simp only [n1, if_true, if_false]
          cases h2 : l.any (fun p => decide (p.table = s.to)) with
          | true =>
            have n2 : (butL l s.to []).length < l.length := but_len.2.2 h2
            simp [n2]
          | false =>
            have n2 : ¬ ((butL l s.to []).length < l.length) := fun e => by rw [but_len.2.1 e] at h2; cases h2
            simp only [n2, Bool.false_eq_true, if_false]
            have hto : ∀ x ∈ l, x.table ≠ s.to := by
              rw [List.any_eq_false] at h2
              intro x hx
              have := h2 x hx
              simpa using this
            obtain ⟨p1, p2⟩ := tabW_spec s.table s.to l (butL l s.table []) (but_asc ha _ _) (asc_distinct ha (List.Perm.refl _)) (fun x _ _ y hy hc => hto y (List.mem_filter.1 hy).1 hc.1)
            refine ⟨trivial, fun _ => ⟨?_, p2⟩, fun h => absurd rfl h⟩
            refine List.Perm.trans ?_ p1.symm
            have e1 : butL l s.table [] = (l.filter fun p => !decide (p.table = s.table)).map (tabF s.table s.to) := by
              have : ∀ m : List Pr, (∀ x ∈ m, x.table ≠ s.table) → m.map (tabF s.table s.to) = m := by
                intro m hm
                conv => rhs; rw [← List.map_id m]
                refine List.map_congr_left fun x hx => ?_
                unfold tabF
                rw [if_neg (hm x hx)]
                rfl
              rw [this _ (fun x hx => by simpa using (List.mem_filter.1 hx).2)]
              unfold butL goes
              simp
            rw [e1, ← List.map_append]
            refine List.Perm.map _ ?_
            exact (List.perm_append_comm.trans (List.filter_append_perm (fun p : Pr => decide (p.table = s.table)) l)).symm
      · by_cases k5 : s.kind = 5
        · simp only [madeL, doesL, k5, show ¬ ((5 : Int) = 1) by decide, show ¬ ((5 : Int) = 2) by decide, show ¬ ((5 : Int) = 4) by decide, show ¬ ((5 : Int) = 3 ∨ (5 : Int) = 6) by decide, if_false, if_true]
          cases h : mapF s.table s.text l with
          | none => simp
          | some q => exact ⟨trivial, fun _ => ⟨List.Perm.refl _, asc_keys (mapF_keys _ _ _ _ h) ha⟩, fun h => absurd rfl h⟩
        · have k36 : s.kind = 3 ∨ s.kind = 6 := by
            simp only [k1, k2, k4, k5, if_false] at hr
            by_cases h : s.kind = 3 ∨ s.kind = 6
            · exact h
            · rw [if_neg h] at hr; cases hr
          have hkey : s.key ≠ [] := by
            simp only [k1, k2, k36, if_true, if_false, Bool.and_eq_true] at hr
            intro e
            rw [e] at hr
            exact absurd hr.1.1 (by decide)
          unfold madeL doesL
          rw [if_neg k1, if_neg k2, if_pos k36, if_neg k1, if_neg k2, if_neg k4, if_neg k5]
          cases h : idxL l s.table s.key with
          | none => exact ⟨rfl, fun _ => ⟨List.Perm.refl _, ha⟩, fun h => absurd rfl h⟩
          | some i =>
            obtain ⟨p, hp, h1, h2, _⟩ := idx_some h
            simp only [hp]
            cases h3 : idxL l s.table s.to with
            | some j => simp
            | none =>
              simp only [Option.isSome_none, Bool.false_eq_true, if_false]
              have hn := idx_none h3
              rcases k36 with k3 | k6
              · rw [if_neg (by rw [k3]; decide), if_pos k3]
                refine ⟨rfl, fun _ => ⟨?_, withL_asc (but_asc ha _ _) fun x hx => hn x (List.mem_filter.1 hx).1⟩, fun h => absurd rfl h⟩
                refine List.Perm.trans ?_ (withL_perm _ _).symm
                rw [but_at ha hp h1 h2 hkey, show ({ p with key := s.to } : Pr) = ⟨s.table, s.to, p.value⟩ by rw [← h1]]
                exact set_perm hp
              · rw [if_pos k6, if_neg (by rw [k6]; decide)]
                refine ⟨rfl, fun _ => ⟨?_, withL_asc ha fun x hx => hn x hx⟩, fun h => absurd rfl h⟩
                exact (List.perm_append_comm).trans (withL_perm _ l).symm
/-- What the program makes is what the document says. -/
theorem apply_made {l : List Pr} {s : Sp} (hm : mayL l = true) (hr : rightL s = true) : ((madeL l s).2 ≠ 0 ∧ applyL l s = ([], (madeL l s).2)) ∨ ((madeL l s).2 = 0 ∧ 500 < (madeL l s).1.length ∧ applyL l s = ([], 163)) ∨
    ((madeL l s).2 = 0 ∧ (madeL l s).1.length ≤ 500 ∧ (applyL l s).2 = 0 ∧ (madeL l s).1.Perm (applyL l s).1 ∧ Asc (applyL l s).1) := by
  obtain ⟨h1, h2, h3⟩ := made_does (may_parts hm).2.2 hr
  by_cases he : (doesL l s).2 = 0
  · obtain ⟨hp, ha⟩ := h2 he
    have hl := hp.length_eq
    by_cases h5 : (doesL l s).1.length ≤ 500
    · refine .inr (.inr ⟨by rw [h1]; exact he, by omega, ?_⟩)
      have e : applyL l s = ((doesL l s).1, 0) := by unfold applyL; rw [if_pos hm, if_pos hr, if_pos he, if_pos h5]
      rw [e]
      exact ⟨rfl, hp, ha⟩
    · refine .inr (.inl ⟨by rw [h1]; exact he, by omega, ?_⟩)
      unfold applyL
      rw [if_pos hm, if_pos hr, if_pos he, if_neg h5]
  · refine .inl ⟨by rw [h1]; exact he, ?_⟩
    unfold applyL
    rw [if_pos hm, if_pos hr, if_neg he, h1]
end Go.Proofs.YthjcifokmcbaoaaGreatDoor.st
/- Lists of pairs and of steps in memory. No conditions. -/
namespace Go.Proofs.YthjcifokmcbaoaaGreatDoor.st
open Go.RowKit gl

abbrev B (l : List UInt8) : ByteArray := ⟨l.toArray⟩
theorem B_list (l : List UInt8) : (B l).data.toList = l := by simp
theorem B_size (l : List UInt8) : (B l).size = l.length := by simp [ByteArray.size]
theorem B_of (s : ByteArray) : B s.data.toList = s := by apply ByteArray.ext; simp
theorem B_inj {a b : List UInt8} (h : B a = B b) : a = b := by have := congrArg (fun x : ByteArray => x.data.toList) h; simpa using this
theorem ba_inj {a b : ByteArray} (h : a.data.toList = b.data.toList) : a = b := by rw [← B_of a, ← B_of b, h]
theorem toList_len (s : ByteArray) : s.data.toList.length = s.size := by simp
theorem seq_true {a b : ByteArray} (h : a = b) : (a.toList == b.toList) = true := by rw [h]; simp
theorem seq_false {a b : ByteArray} (h : a ≠ b) : (a.toList == b.toList) = false := by
  rw [beq_eq_false_iff_ne, ByteArray.toList_eq, ByteArray.toList_eq]
  exact fun e => h (ba_inj e)
theorem then_bel {w w' w'' : World} (h : Below w.heap.size w w') (h2 : Below w'.heap.size w' w'') : Below w.heap.size w w'' := h.trans (h2.mono h.size)
theorem drewN_bel (w : World) (n : Nat) : Below w.heap.size w (w.drewN n) := ⟨rfl, rfl, rfl, Nat.le_refl _, fun _ _ => rfl⟩
def prC (x : Pr) : List Value := [.string (B x.table), .string (B x.key), .string (B x.value)]
def spC (x : Sp) : List Value := [.int .i64 x.kind, .string (B x.table), .string (B x.key), .string (B x.to), .string (B x.text)]
theorem prC_len (x : Pr) : (prC x).length = 3 := rfl
theorem spC_len (x : Sp) : (spC x).length = 5 := rfl
theorem prC_one : ∀ (x : Pr), ∀ v ∈ prC x, v.oneCell' = true := by
  intro x v hv
  simp only [prC, List.mem_cons, List.not_mem_nil, or_false] at hv
  rcases hv with rfl | rfl | rfl <;> rfl
abbrev Prs (w : World) (v : Value) (l : List Pr) : Prop := rw.Rw prC 3 w v l
abbrev Sps (w : World) (v : Value) (l : List Sp) : Prop := rw.Rw spC 5 w v l
abbrev NewPrs (M : Nat) (w : World) (v : Value) (l : List Pr) : Prop := rw.NewRw prC 3 57 M w v l
abbrev prsC (l : List Pr) : List Value := rw.flat prC l
theorem prs_cells {w : World} {b o n c : Nat} {l : List Pr} (h : Prs w (.slice (some ⟨b, o, none⟩) n c) l) {j : Nat} {x : Pr} (hx : l[j]? = some x) :
    w.cell? ⟨b, o + j * 3, none⟩ = some (.string (B x.table)) ∧ w.cell? ⟨b, o + j * 3 + 1, none⟩ = some (.string (B x.key)) ∧ w.cell? ⟨b, o + j * 3 + 2, none⟩ = some (.string (B x.value)) :=
  ⟨rw.Rw.cell h hx (i := 0) rfl, rw.Rw.cell h hx (i := 1) rfl, rw.Rw.cell h hx (i := 2) rfl⟩
theorem sps_cells {w : World} {b o n c : Nat} {l : List Sp} (h : Sps w (.slice (some ⟨b, o, none⟩) n c) l) {j : Nat} {x : Sp} (hx : l[j]? = some x) :
    w.cell? ⟨b, o + j * 5, none⟩ = some (.int .i64 x.kind) ∧ w.cell? ⟨b, o + j * 5 + 1, none⟩ = some (.string (B x.table)) ∧ w.cell? ⟨b, o + j * 5 + 2, none⟩ = some (.string (B x.key)) ∧ w.cell? ⟨b, o + j * 5 + 3, none⟩ = some (.string (B x.to)) ∧ w.cell? ⟨b, o + j * 5 + 4, none⟩ = some (.string (B x.text)) :=
  ⟨rw.Rw.cell h hx (i := 0) rfl, rw.Rw.cell h hx (i := 1) rfl, rw.Rw.cell h hx (i := 2) rfl, rw.Rw.cell h hx (i := 3) rfl, rw.Rw.cell h hx (i := 4) rfl⟩
theorem infoPr : (Tryz.prog.info? 57).map (fun i => (i.zero, i.size, i.bytes)) = some (some (.agg #[.string .empty, .string .empty, .string .empty]), 3, 48) := by kernel_rfl
end Go.Proofs.YthjcifokmcbaoaaGreatDoor.st
/- cmp.Compare, cmp.Or and package step's compare return plain functions. No conditions. -/
namespace Go.Proofs.YthjcifokmcbaoaaGreatDoor.st
open Go.ChangeShapes Go.WideShapes Go.ChangeAt Go.RowKit gl Go.Sort

def cmpL (a b : List UInt8) : Int := if ltL a b = true then -1 else if a = b then 0 else 1
theorem isNaN_any (s : ByteArray) (w : World) : Calls Tryz.prog 187 #[.string s] w fun e w' => e = .returned (.bool false) ∧ w = w' := by
  go_enter Tryz.func187, Tryz.ntmps187
  go_wp2_with fail
  go_ret
  exact ⟨by simp, rfl⟩
theorem lt_bool (x y : ByteArray) : Op.bytesLess x.toList y.toList = ltL x.data.toList y.data.toList := by rw [ByteArray.toList_eq, ByteArray.toList_eq]
theorem Compare_any (x y : ByteArray) (w : World) : Calls Tryz.prog 124 #[.string x, .string y] w fun e w' => e = .returned (.int .i64 (cmpL x.data.toList y.data.toList)) ∧ w = w' := by
  have HN := Lib.hid isNaN_any
  have hl := lt_bool x y
  cases h1 : ltL x.data.toList y.data.toList with
  | true =>
    rw [h1] at hl
    have Hr : Hid (cmpL x.data.toList y.data.toList = -1) := Lib.hid (by unfold cmpL; rw [if_pos h1])
    clear h1
    go_enter Tryz.func124, Tryz.ntmps124
    go_wp2_with fail
    refine (HN.out x _).mono ?_
    rintro e w1 ⟨rfl, rfl⟩
    go_wp2_with fail
    refine (HN.out y _).mono ?_
    rintro e w1 ⟨rfl, rfl⟩
    go_wp2_with fail
    go_ret
    rw [Hr.out]
    exact ⟨rfl, rfl⟩
  | false =>
    rw [h1] at hl
    by_cases h2 : x = y
    · have q := seq_true h2
      have Hr : Hid (cmpL x.data.toList y.data.toList = 0) := Lib.hid (by unfold cmpL; rw [if_neg (by rw [h1]; simp), if_pos (by rw [h2])])
      clear h1 h2
      go_enter Tryz.func124, Tryz.ntmps124
      go_wp2_with fail
      refine (HN.out x _).mono ?_
      rintro e w1 ⟨rfl, rfl⟩
      go_wp2_with fail
      refine (HN.out y _).mono ?_
      rintro e w1 ⟨rfl, rfl⟩
      go_wp2_with fail
      go_ret
      rw [Hr.out]
      exact ⟨rfl, rfl⟩
    · have q := seq_false h2
      have Hr : Hid (cmpL x.data.toList y.data.toList = 1) := Lib.hid (by unfold cmpL; rw [if_neg (by rw [h1]; simp), if_neg (fun e => h2 (ba_inj e))])
      clear h1 h2
      go_enter Tryz.func124, Tryz.ntmps124
      go_wp2_with fail
      refine (HN.out x _).mono ?_
      rintro e w1 ⟨rfl, rfl⟩
      go_wp2_with fail
      refine (HN.out y _).mono ?_
      rintro e w1 ⟨rfl, rfl⟩
      go_wp2_with fail
      go_ret
      rw [Hr.out]
      exact ⟨rfl, rfl⟩
def orI (a b : Int) : Int := if a = 0 then b else a
theorem Or_any (a b : Int) (g : Nat) (w : World) (h0 : w.cell? ⟨g, 0, none⟩ = some (.int .i64 a)) (h1 : w.cell? ⟨g, 1, none⟩ = some (.int .i64 b)) :
    Calls Tryz.prog 123 #[.slice (some ⟨g, 0, none⟩) 2 2] w fun e w' => e = .returned (.int .i64 (orI a b)) ∧ w = w' := by
  by_cases ha : a = 0
  · subst ha
    have Hr : Hid (orI 0 b = b) := Lib.hid rfl
    by_cases hb : b = 0
    · subst hb
      go_enter Tryz.func123, Tryz.ntmps123
      go_wp2_with fail
      refine wp_loop_rounds 3 ?_
      rw [rounds_succ]
      go_wp2_with fail
      rw [rounds_succ]
      go_wp2_with fail
      rw [rounds_succ]
      go_wp2_with fail
      go_ret
      rw [Hr.out]
      exact ⟨rfl, rfl⟩
    · have q : (b != 0) = true := by simpa using hb
      go_enter Tryz.func123, Tryz.ntmps123
      go_wp2_with fail
      refine wp_loop_rounds 3 ?_
      rw [rounds_succ]
      go_wp2_with fail
      rw [rounds_succ]
      go_wp2_with fail
      go_ret
      rw [Hr.out]
      exact ⟨rfl, rfl⟩
  · have q : (a != 0) = true := by simpa using ha
    have Hr : Hid (orI a b = a) := Lib.hid (by unfold orI; rw [if_neg ha])
    go_enter Tryz.func123, Tryz.ntmps123
    go_wp2_with fail
    refine wp_loop_rounds 3 ?_
    rw [rounds_succ]
    go_wp2_with fail
    go_ret
    rw [Hr.out]
    exact ⟨rfl, rfl⟩
def cfP (x y : Pr) : Int := orI (cmpL x.table y.table) (cmpL x.key y.key)
theorem cmp_neg (a b : List UInt8) : decide (cmpL a b < 0) = ltL a b := by
  unfold cmpL
  cases h : ltL a b with
  | true => simp
  | false =>
    by_cases h2 : a = b <;> simp [h2]
theorem cmp_zero (a b : List UInt8) : cmpL a b = 0 ↔ a = b := by
  unfold cmpL
  cases h : ltL a b with
  | true =>
    simp
    rintro rfl
    rw [ltL_irrefl] at h
    cases h
  | false =>
    by_cases h2 : a = b <;> simp [h2]
set_option maxHeartbeats 1000000 in
set_option maxRecDepth 100000 in
theorem compare_any (x y : Pr) (w : World) : Calls Tryz.prog 74 #[.agg (prC x).toArray, .agg (prC y).toArray] w fun e w' => e = .returned (.int .i64 (cfP x y)) ∧ ∃ q os', w' = grow (w.drewN q) os' := by
  have HC1 := Lib.hid fun W => (Compare_any (B x.table) (B y.table) W).mono fun e w' h => (⟨h.1, h.2.symm⟩ : _ ∧ w' = W)
  have HC2 := Lib.hid fun W => (Compare_any (B x.key) (B y.key) W).mono fun e w' h => (⟨h.1, h.2.symm⟩ : _ ∧ w' = W)
  simp only at HC1 HC2
  have Hr : Hid (orI (cmpL x.table y.table) (cmpL x.key y.key) = cfP x y) := Lib.hid rfl
  generalize cfP x y = cr at *
  generalize cmpL x.table y.table = c1 at *
  generalize cmpL x.key y.key = c2 at *
  unfold prC
  generalize B x.table = x1 at *
  generalize B y.table = y1 at *
  generalize B x.key = x2 at *
  generalize B y.key = y2 at *
  generalize B x.value = x3 at *
  generalize B y.value = y3 at *
  go_enter Tryz.func74, Tryz.ntmps74
  go_wp2_with fail
  obtain ⟨wA, hA⟩ : ∃ wA, wA = (w.alloc (.cells #[.string x1, .string x2, .string x3] 57)).alloc (.cells #[.string y1, .string y2, .string y3] 57) := ⟨_, rfl⟩
  have hx := heap_al (heap_alloc_new w (.cells #[.string x1, .string x2, .string x3] 57)) (.cells #[.string y1, .string y2, .string y3] 57)
  have hy := heap_alloc_new (w.alloc (.cells #[.string x1, .string x2, .string x3] 57)) (.cells #[.string y1, .string y2, .string y3] 57)
  rw [World.size_alloc] at hy
  have c0 : wA.cell? ⟨w.heap.size, 0, none⟩ = some (.string x1) := by rw [hA]; exact cell_in (o := 0) hx
  have c1' : wA.cell? ⟨w.heap.size, 1, none⟩ = some (.string x2) := by rw [hA]; exact cell_in (o := 1) hx
  have c2' : wA.cell? ⟨w.heap.size + 1, 0, none⟩ = some (.string y1) := by rw [hA]; exact cell_in (o := 0) hy
  have c3 : wA.cell? ⟨w.heap.size + 1, 1, none⟩ = some (.string y2) := by rw [hA]; exact cell_in (o := 1) hy
  rw [← hA]
  have HA := Lib.hid hA
  clear hA hx hy
  refine wp_region_still_tail 10 (by kernel_rfl) (by kernel_rfl) ?_
  simp only [List.take_succ_cons, List.take_zero, List.drop_succ_cons, List.drop_zero]
  still_step
  still_step
  still_step
  still_step
  still_call (HC1.out _)
  still_step
  still_step
  still_step
  still_step
  still_call (HC2.out _)
  refine wpStill_nil ?_
  go_wp2_with fail
  obtain ⟨wB, hB⟩ : ∃ wB, wB = (wA.alloc (.cells #[.int .i64 c1, .int .i64 c2] 3)).drew := ⟨_, rfl⟩
  have hn : wB.heap[wA.heap.size]? = some (.cells #[.int .i64 c1, .int .i64 c2] 3 (0, 0)) := by rw [hB]; exact heap_alloc_new wA (.cells #[.int .i64 c1, .int .i64 c2] 3)
  have HB := Lib.hid hB
  rw [← hB]
  clear hB
  refine (Or_any c1 c2 wA.heap.size wB (cell_in (o := 0) hn) (cell_in (o := 1) hn)).mono ?_
  rintro e w' ⟨rfl, rfl⟩
  clear hn c0 c1' c2' c3 HC1 HC2
  go_wp2_with fail
  go_ret
  rw [Hr.out]
  refine ⟨rfl, 1, #[.cells #[.string x1, .string x2, .string x3] 57, .cells #[.string y1, .string y2, .string y3] 57, .cells #[.int .i64 c1, .int .i64 c2] 3], ?_⟩
  rw [HB.out, HA.out]
  rfl
end Go.Proofs.YthjcifokmcbaoaaGreatDoor.st
/- What a sort of structs leaves in memory: laws on memory for any program. No conditions beside those stated. -/
namespace Go.Proofs.YthjcifokmcbaoaaGreatDoor
open Go.RowKit Go.Sort Go.Lib
variable {α : Type} [Inhabited α]

theorem sorted_block {enc : α → List Value} {k : Nat} {w : World} {blk off n : Nat} {d : Array α} {os : Array Obj} {c : Array Value} {e : TypeId} {fr : Nat × Nat} (h : w.heap[blk]? = some (.cells c e fr)) :
    (sortWorldK enc k w blk off n d os).heap[blk]? = some (.cells (putCells id off (flatK enc k d) c) e fr) := by
  have hlt := lt_of_block h
  have h' : w.heap[blk] = .cells c e fr := by simpa [Array.getElem?_eq_getElem hlt] using h
  show (w.heap.modify blk _ ++ os)[blk]? = _
  rw [Array.getElem?_append_left (by simpa using hlt), Array.getElem?_eq_getElem (by simpa using hlt), Array.getElem_modify_self, h']
  rfl
theorem sorted_below {enc : α → List Value} {k : Nat} {w : World} {blk off n : Nat} {d : Array α} {os : Array Obj} {B : Nat} (hb : B ≤ blk) (hB : B ≤ w.heap.size) : Below B w (sortWorldK enc k w blk off n d os) := by
  refine ⟨rfl, rfl, rfl, ?_, fun i hi => ?_⟩
  · show w.heap.size ≤ (w.heap.modify blk _ ++ os).size
    simp
  · show (w.heap.modify blk _ ++ os)[i]? = _
    rw [Array.getElem?_append_left (by simp; omega), Array.getElem?_modify, if_neg (by omega)]
theorem putCells_size {β : Type} [Inhabited β] (enc : β → Value) (off : Nat) (d : Array β) (c : Array Value) : (putCells enc off d c).size = c.size := by simp [putCells]
theorem putCells_at (F c : Array Value) (j : Nat) (hj : j < F.size) (hc : j < c.size) : (putCells id 0 F c)[j]? = some F[j] := by
  unfold putCells
  rw [Array.getElem?_mapIdx, Array.getElem?_eq_getElem hc]
  simp [hj]
theorem holds_of_block {w : World} {blk : Nat} {F c : Array Value} {e : TypeId} (h : w.heap[blk]? = some (.cells c e (0, 0))) (hF : ∀ j, j < F.size → c[j]? = some F[j]!) : Holds id w blk 0 F := by
  intro j hj
  rw [Nat.zero_add]
  exact ⟨(cell_in h).trans (hF j hj), free_in h⟩
end Go.Proofs.YthjcifokmcbaoaaGreatDoor
/- slices.SortFunc, slices.Clone, slices.Clip of pairs, and the searches for pairs. Conditions beside each. -/
namespace Go.Proofs.YthjcifokmcbaoaaGreatDoor.st
open Go.ChangeShapes Go.WideShapes Go.ChangeAt Go.RowKit gl Go.Lib
open Go.Sort (SWO PermIn SortedIn HoldsK)

theorem cf_lt (x y : Pr) : ltOf cfP x y = ltP x y := by
  unfold ltOf cfP orI ltP
  by_cases h : x.table = y.table
  · rw [if_pos ((cmp_zero _ _).2 h), cmp_neg, h, ltL_irrefl]
    simp
  · rw [if_neg (fun e => h ((cmp_zero _ _).1 e)), cmp_neg]
    simp [h]
theorem swoP : SWO (ltOf cfP) where
  irrefl x := by rw [cf_lt]; exact ltP_irrefl x
  trans x y z h1 h2 := by rw [cf_lt] at *; exact ltP_trans h1 h2
  ntrans x y z h1 h2 := by
    rw [cf_lt] at *
    cases h : ltP x z with
    | false => rfl
    | true =>
      exfalso
      cases h3 : ltP z y with
      | true =>
        rw [ltP_trans h h3] at h1; cases h1
      | false =>
        obtain ⟨e1, e2⟩ := ltP_total h3 h2
        rw [ltP_keys (a := x) (a' := x) (b' := y) rfl rfl e1 e2] at h
        rw [h] at h1; cases h1
instance : Inhabited Pr := ⟨⟨[], [], []⟩⟩
theorem cmp_lays (blk off size : Nat) (w : World) : CmpLays Tryz.prog 74 #[] prC 3 cfP blk off size w := fun _ _ _ _ x y => compare_any x y _
theorem sort_any (blk cap : Nat) (d : Array Pr) (w : World) (hH : HoldsK prC 3 w blk 0 d) (hblk : blk < w.heap.size) (hsz : d.size < 4611686018427387904) :
    Calls Tryz.prog 73 #[.slice (some ⟨blk, 0, none⟩) d.size cap, .func (.func 74) #[] #[]] w fun e w' =>
      e = .returned (.tuple #[]) ∧ ∃ d' n os, PermIn 0 d.size d d' ∧ SortedIn (ltOf cfP) 0 d.size d' ∧ w' = sortWorldK prC 3 w blk 0 n d' os :=
  AnyQ.slices_SortFunc Tryz.sortPr 3 Tryz.isAgg57 Tryz.sizeOf57 prC prC_len prC_one cfP swoP 74 #[] blk 0 cap d w (enters_of Tryz.func74 (by kernel_rfl) rfl) (cmp_lays blk 0 d.size w) hH hblk hsz
/-- What the sort leaves is the one list that ascends. -/
theorem sorted_is {d d' : Array Pr} {T : List Pr} (hp : PermIn 0 d.size d d') (hs : SortedIn (ltOf cfP) 0 d.size d') (hT : d.toList.Perm T) (ha : Asc T) : d'.toList = T := by
  obtain ⟨hz, _, h3⟩ := hp
  have e1 : d'.extract 0 d.size = d' := by rw [← hz]; simp
  have e2 : d.extract 0 d.size = d := by simp
  rw [e1, e2] at h3
  have hdis := asc_distinct ha (h3.trans hT).symm
  refine asc_unique ?_ ha (h3.trans hT)
  unfold Asc
  rw [List.pairwise_iff_getElem] at hdis ⊢
  intro i j hi hj hij
  have hi' : i < d'.size := by simpa using hi
  have hj' : j < d'.size := by simpa using hj
  have h := hs i j (Nat.zero_le _) hij (by omega)
  rw [cf_lt] at h
  rw [getElem!_pos d' i hi', getElem!_pos d' j hj'] at h
  have h2 := hdis i j hi hj hij
  simp only [Array.getElem_toList] at h2 ⊢
  exact ltP_of h (fun e => h2 ⟨e.1.symm, e.2.symm⟩)
end Go.Proofs.YthjcifokmcbaoaaGreatDoor.st
/- Package step: the names that stand are searched. Condition: the names lie as the text lays them. -/
namespace Go.Proofs.YthjcifokmcbaoaaGreatDoor.st
open Go.ChangeShapes Go.WideShapes Go.ChangeAt Go.RowKit gl

def nameAt : Nat → List UInt8
  | 0 => nDouble | 1 => nLower | 2 => nReverse | 3 => nTrim | _ => nUpper
def namesL : List Value := [.string ⟨#[100, 111, 117, 98, 108, 101]⟩, .string ⟨#[108, 111, 119, 101, 114]⟩, .string ⟨#[114, 101, 118, 101, 114, 115, 101]⟩, .string ⟨#[116, 114, 105, 109]⟩, .string ⟨#[117, 112, 112, 101, 114]⟩]
theorem namesL_at (k : Nat) (hk : k < 5) : namesL[k]? = some (.string (B (nameAt k))) := by
  match k, hk with
  | 0, _ => rfl
  | 1, _ => rfl
  | 2, _ => rfl
  | 3, _ => rfl
  | 4, _ => rfl
theorem names_lt : ∀ h k : Fin 5, ltL (nameAt h) (nameAt k) = decide (h < k) := by decide +kernel
theorem fn_at (k : Nat) (hk : k < 5) : fnL (nameAt k) = true := by
  match k, hk with
  | 0, _ => decide
  | 1, _ => decide
  | 2, _ => decide
  | 3, _ => decide
  | 4, _ => decide
theorem fn_is {t : List UInt8} (h : fnL t = true) : ∃ k, k < 5 ∧ nameAt k = t := by
  unfold fnL at h
  rw [decide_eq_true_eq] at h
  rcases h with rfl | rfl | rfl | rfl | rfl
  · exact ⟨0, by omega, rfl⟩
  · exact ⟨1, by omega, rfl⟩
  · exact ⟨2, by omega, rfl⟩
  · exact ⟨3, by omega, rfl⟩
  · exact ⟨4, by omega, rfl⟩
/-- The listed variables lie in the world. -/
structure Slo (w : World) : Prop where
  glo : Glo w
  names : w.rangeAt 0 0 namesL
  pow : Lib.TabIs Tryz.prog w "internal/strconv.uint64pow10" .u64 Lib.pow10Tab
  rng : ∃ tp p, w.var? Tryz.prog "strconv.ErrRange" = some #[.iface tp p]
  syn : ∃ tp p, w.var? Tryz.prog "strconv.ErrSyntax" = some #[.iface tp p]
theorem gPow : Tryz.prog.globalNamed "internal/strconv.uint64pow10" = some 8 := by kernel_rfl
theorem gRng : Tryz.prog.globalNamed "strconv.ErrRange" = some 5 := by kernel_rfl
theorem gSyn : Tryz.prog.globalNamed "strconv.ErrSyntax" = some 4 := by kernel_rfl
theorem var_lt {w : World} {n : String} {g : Nat} {cs : Array Value} (hg : Tryz.prog.globalNamed n = some g) (h : w.var? Tryz.prog n = some cs) : g < w.heap.size := by
  unfold World.var? at h
  simp only [hg, Option.bind_some] at h
  rcases Nat.lt_or_ge g w.heap.size with h1 | h1
  · exact h1
  · rw [Array.getElem?_eq_none h1] at h
    simp at h
theorem Slo.below {w w' : World} {b : Nat} (h : Slo w) (hb : Below b w w') (hB : w.heap.size ≤ b) : Slo w' := by
  obtain ⟨h1, h2, h3, ⟨tp, p, h4⟩, tp', p', h5⟩ := h
  have hu : 0 < w.heap.size := World.block_lt_of_cell? _ _ (h2 0 _ rfl)
  have hp := var_lt gPow h3
  have hr := var_lt gRng h4
  have hs := var_lt gSyn h5
  refine ⟨h1.below hb hB, fun j v hv => ?_, var?_below hb gPow (by omega) h3, ⟨tp, p, var?_below hb gRng (by omega) h4⟩, tp', p', var?_below hb gSyn (by omega) h5⟩
  rw [hb.cell (p := ⟨0, 0 + j, none⟩) (by show 0 < b; omega)]
  exact h2 j v hv
theorem Slo.later {w w' : World} (h : Slo w) (hb : Below w.heap.size w w') : Slo w' := h.below hb (Nat.le_refl _)

theorem Less_any (x y : ByteArray) (w : World) : Calls Tryz.prog 159 #[.string x, .string y] w fun e w' => e = .returned (.bool (ltL x.data.toList y.data.toList)) ∧ w = w' := by
  have HN := Lib.hid isNaN_any
  have hl := lt_bool x y
  generalize ltL x.data.toList y.data.toList = r at *
  go_enter Tryz.func159, Tryz.ntmps159
  go_wp2_with fail
  refine (HN.out x _).mono ?_
  rintro e w1 ⟨rfl, rfl⟩
  go_wp2_with fail
  go_ret
  exact ⟨by first | rfl | rw [hl], rfl⟩
theorem isNaN2_any (s : ByteArray) (w : World) : Calls Tryz.prog 160 #[.string s] w fun e w' => e = .returned (.bool false) ∧ w = w' := by
  go_enter Tryz.func160, Tryz.ntmps160
  go_wp2_with fail
  go_ret
  exact ⟨by simp, rfl⟩
def Between (t : List UInt8) (i j : Nat) : Prop := ∀ k, k < 5 → nameAt k = t → i ≤ k ∧ k ≤ j
theorem between_up {t : List UInt8} {i j h : Nat} (hb : Between t i j) (hh : h < 5) (hl : ltL (nameAt h) t = true) : Between t (h + 1) j := fun k hk e => by
  have := names_lt ⟨h, hh⟩ ⟨k, hk⟩
  simp only [e] at this
  rw [hl] at this
  have h2 : h < k := by simpa using this.symm
  exact ⟨h2, (hb k hk e).2⟩
theorem between_dn {t : List UInt8} {i j h : Nat} (hb : Between t i j) (hh : h < 5) (hl : ltL (nameAt h) t = false) : Between t i h := fun k hk e => by
  have := names_lt ⟨h, hh⟩ ⟨k, hk⟩
  simp only [e] at this
  rw [hl] at this
  have h2 : ¬ h < k := by simpa using this.symm
  exact ⟨(hb k hk e).1, by omega⟩
def BsOut (t : List UInt8) (e : Ending) : Prop := ∃ i : Int, e = .returned (.tuple #[.int .i64 i, .bool (fnL t)])
set_option maxHeartbeats 1000000 in
set_option maxRecDepth 100000 in
theorem search_any (s : ByteArray) (w : World) (hn : w.rangeAt 0 0 namesL) :
    Calls Tryz.prog 107 #[.slice (some ⟨0, 0, none⟩) 5 5, .string s] w fun e w' => BsOut s.data.toList e ∧ w = w' := by
  have HN := Lib.hid isNaN2_any
  have hcell : Hid (∀ k, k < 5 → w.cell? ⟨0, k, none⟩ = some (.string (B (nameAt k)))) := Lib.hid fun k hk => by
    have := hn k _ (namesL_at k hk)
    rwa [Nat.zero_add] at this
  clear hn
  go_enter Tryz.func107, Tryz.ntmps107
  go_wp2_with fail
  go_loop [7, 8] (fun vi vj => ∃ i j : Nat, i ≤ j ∧ j ≤ 5 ∧ vi = .int .i64 i ∧ vj = .int .i64 j ∧ Hid (Between s.data.toList i j)) (fun vi vj => (intOf vj).toNat - (intOf vi).toNat)
  case atStart => exact ⟨0, 5, by omega, by omega, rfl, rfl, Lib.hid fun k hk _ => ⟨by omega, by omega⟩⟩
  case round =>
    obtain ⟨i, j, hij, hj, rfl, rfl, HB⟩ := hrel
    by_cases hlt : i < j
    · have hh5 : (i + j) / 2 < 5 := by omega
      have hc := hcell.out ((i + j) / 2) hh5
      have HL := Lib.hid fun W => Less_any (B (nameAt ((i + j) / 2))) s W
      simp only at HL
      have Hup := Lib.hid fun h => between_up HB.out hh5 h
      have Hdn := Lib.hid fun h => between_dn HB.out hh5 h
      generalize B (nameAt ((i + j) / 2)) = nm at *
      cases hlt2 : ltL (nameAt ((i + j) / 2)) s.data.toList with
      | true =>
        rw [hlt2] at HL
        have HB2 := Lib.hid (Hup.out hlt2)
        clear Hup Hdn hlt2 HB
        go_wp2_with fail
        refine (HL.out _).mono ?_
        rintro e w1 ⟨rfl, rfl⟩
        go_wp2_with fail
        go_round
        case rel => exact ⟨(i + j) / 2 + 1, j, by omega, hj, by go_num, rfl, HB2⟩
        case measure => simp [intOf]; omega
      | false =>
        rw [hlt2] at HL
        have HB2 := Lib.hid (Hdn.out hlt2)
        clear Hup Hdn hlt2 HB
        go_wp2_with fail
        refine (HL.out _).mono ?_
        rintro e w1 ⟨rfl, rfl⟩
        go_wp2_with fail
        go_round
        case rel => exact ⟨i, (i + j) / 2, by omega, by omega, rfl, by go_num, HB2⟩
        case measure => simp [intOf]; omega
    · obtain rfl : i = j := by omega
      by_cases h5 : i < 5
      · have hc := hcell.out i h5
        have h5' : decide ((i : Int) < 5) = true := by simp; omega
        by_cases he : nameAt i = s.data.toList
        · have q : ((B (nameAt i)).toList == s.toList) = true := seq_true (by rw [he, B_of])
          have Hr : Hid (BsOut s.data.toList (.returned (.tuple #[.int .i64 i, .bool true]))) := Lib.hid ⟨i, by rw [← he, fn_at i h5]⟩
          clear he HB
          generalize B (nameAt i) = nm at *
          go_wp2_with fail
          go_ret2
          exact ⟨Hr.out, rfl⟩
        · have q : ((B (nameAt i)).toList == s.toList) = false := seq_false (fun e => he (by rw [← e, B_list]))
          have Hr : Hid (BsOut s.data.toList (.returned (.tuple #[.int .i64 i, .bool false]))) := Lib.hid ⟨i, by
            cases hf : fnL s.data.toList with
            | false => rfl
            | true =>
              obtain ⟨k, hk, hke⟩ := fn_is hf
              have := HB.out k hk hke
              obtain rfl : k = i := by omega
              exact absurd hke he⟩
          clear he HB
          generalize B (nameAt i) = nm at *
          go_wp2_with fail
          refine (HN.out _ _).mono ?_
          rintro e w1 ⟨rfl, rfl⟩
          go_wp2_with fail
          go_ret2
          exact ⟨Hr.out, rfl⟩
      · obtain rfl : i = 5 := by omega
        have Hr : Hid (BsOut s.data.toList (.returned (.tuple #[.int .i64 5, .bool false]))) := Lib.hid ⟨5, by
          cases hf : fnL s.data.toList with
          | false => rfl
          | true =>
            obtain ⟨k, hk, hke⟩ := fn_is hf
            have := HB.out k hk hke
            omega⟩
        have h5' : decide (((5 : Nat) : Int) < 5) = false := by decide
        clear HB
        go_wp2_with fail
        go_ret2
        exact ⟨Hr.out, rfl⟩
end Go.Proofs.YthjcifokmcbaoaaGreatDoor.st
/- What the rows' list gives the Step layer: the tables lie in the world, strconv.ErrRange holds an error; and a world for the witness. No conditions. -/
namespace Go.Proofs.YthjcifokmcbaoaaGreatDoor.st
open Go.ChangeShapes Go.WideShapes Go.ChangeAt Go.RowKit gl

def laidS : List (String × DataW Unit) := [("math/bits.deBruijn32tab", Rows.laid_math_bits_deBruijn32tab), ("math/bits.deBruijn64tab", Rows.laid_math_bits_deBruijn64tab), ("internal/strconv.uint64pow10", Rows.laid_internal_strconv_uint64pow10), ("unicode/utf8.acceptRanges", Rows.laid_unicode_utf8_acceptRanges), ("strconv.ErrRange", Rows.laid_strconv_ErrRange), ("strconv.ErrSyntax", Rows.laid_strconv_ErrSyntax), ("tinderbox/glyph.letters", Rows.laid_tinderbox_glyph_letters), ("tinderbox/glyph.others", Rows.laid_tinderbox_glyph_others), ("tinderbox/step.names", Rows.laid_tinderbox_step_names), ("unicode/utf8.first", Rows.laid_unicode_utf8_first)]

theorem gNam : Tryz.prog.globalNamed "tinderbox/step.names" = some 0 := by kernel_rfl
theorem gNamT : (Tryz.prog.globals[0]?).map (·.type) = some 90 := by kernel_rfl
theorem gPowT : (Tryz.prog.globals[8]?).map (·.type) = some 229 := by kernel_rfl
theorem gSynT : (Tryz.prog.globals[4]?).map (·.type) = some 153 := by kernel_rfl
theorem gRngT : (Tryz.prog.globals[5]?).map (·.type) = some 153 := by kernel_rfl
theorem cStr : Tryz.prog.cellsOf 9 = 1 := by kernel_rfl
theorem cErr : Tryz.prog.cellsOf 227 = 1 := by kernel_rfl
theorem cU64 : Tryz.prog.cellsOf 176 = 1 := by kernel_rfl
theorem cPow : Tryz.prog.cellsOf 229 = 20 := by kernel_rfl
theorem star : "*" ++ "errors.errorString" = "*errors.errorString" := by decide
theorem rowErr (u : TypeId) (h : Tryz.prog.typeName? 3 u = some "*errors.errorString") : u = 225 :=
  typeName_ptr_named (nm := "errors.errorString") (by rw [star]; kernel_rfl) (by kernel_rfl) (by decide) u (by rw [star]; exact h)
theorem powData : (Rows.laid_internal_strconv_uint64pow10 : DataW Unit) = Lib.tabData .u64 Lib.pow10Tab := by kernel_rfl

theorem elem_name {H : Type} {enc : TypeId × Value → H} {w : World} {base fuel : Nat} {sp : Nat → Bool} {held : Bool} {cs : List Value} {ds : List (DataW H)} {p : List MemPlace}
    (h : DataW.trod enc Tryz.prog w base sp held fuel 90 cs = some (.agg ds, p)) (i : Nat) (hi : i < 5) {b : List UInt8} (hd : ds[i]? = some (.lit (.string b))) : cs[i]? = some (.string ⟨b.toArray⟩) := by
  obtain ⟨fuel', d, q, hdi, he⟩ := Lib.array_elem Tryz.underlying90 h i hi
  obtain rfl := Option.some.inj (hd.symm.trans hdi)
  rw [cStr, Nat.mul_one] at he
  obtain ⟨z, e1, y1, _⟩ := DataW.trod_string Tryz.underlying9 he
  simp only [Prod.mk.injEq, DataW.lit.injEq, Lit.string.injEq] at y1
  have := congrArg (·[0]?) e1
  simp only [List.getElem?_take, List.getElem?_drop] at this
  simp at this
  rw [this, y1.1]
theorem names_of {W : World} (h : Lib.VarReads Tryz.prog W "tinderbox/step.names" Rows.laid_tinderbox_step_names) : W.rangeAt 0 0 namesL := by
  obtain ⟨g, t, cs, fuel, p, hg, hty, hvar, hd⟩ := h
  obtain rfl := Option.some.inj (gNam.symm.trans hg)
  obtain rfl := Option.some.inj (gNamT.symm.trans hty)
  intro k v hv
  have hk : k < 5 := (List.getElem?_eq_some_iff.1 hv).1
  rw [World.var?_cell hg hvar _, ← hv, ← Array.getElem?_toList, Nat.zero_add]
  clear hv
  match k, hk with
  | 0, _ => rw [elem_name hd 0 (by decide) rfl]; rfl
  | 1, _ => rw [elem_name hd 1 (by decide) rfl]; rfl
  | 2, _ => rw [elem_name hd 2 (by decide) rfl]; rfl
  | 3, _ => rw [elem_name hd 3 (by decide) rfl]; rfl
  | 4, _ => rw [elem_name hd 4 (by decide) rfl]; rfl
theorem glo_of2 {W : World} (hl : Lib.VarReads Tryz.prog W "tinderbox/glyph.letters" Rows.laid_tinderbox_glyph_letters) (ho : Lib.VarReads Tryz.prog W "tinderbox/glyph.others" Rows.laid_tinderbox_glyph_others) (hs : W.ShapedOpen Tryz.prog) : Glo W :=
  ⟨letters_of hl, others_of ho, cell_of_shapedOpen_int (zero := #[.int .i64 0]) (t := 3) hs (of_decide_eq_true (by kernel_rfl)) (by kernel_rfl) rfl (by kernel_rfl) (by kernel_rfl) Tryz.underlying3⟩
theorem slo_of {W : World} (h : laidMet Tryz.prog laidS W) (hs : W.ShapedOpen Tryz.prog) : Slo W := by
  refine ⟨glo_of2 (Lib.laidMet.reads h (.tail _ (.tail _ (.tail _ (.tail _ (.tail _ (.tail _ (.head _)))))))) (Lib.laidMet.reads h (.tail _ (.tail _ (.tail _ (.tail _ (.tail _ (.tail _ (.tail _ (.head _))))))))) hs, names_of (Lib.laidMet.reads h (.tail _ (.tail _ (.tail _ (.tail _ (.tail _ (.tail _ (.tail _ (.tail _ (.head _)))))))))), ?_, ?_, ?_⟩
  · have h2 : laidMet Tryz.prog (("internal/strconv.uint64pow10", Rows.laid_internal_strconv_uint64pow10) :: laidS.drop 3) W := h.tail.tail
    rw [powData] at h2
    exact Lib.tabIs_of_head gPow gPowT Tryz.underlying229 Tryz.underlying176 cU64 cPow h2
  · obtain ⟨a, s, hv, -, -, -⟩ := laid_sentinel h.tail.tail.tail.tail gRng gRngT Tryz.underlying153 rowErr Tryz.underlying225 Tryz.underlying227 rfl rfl Tryz.underlying9 cErr cStr
    exact ⟨_, _, hv⟩
  · obtain ⟨a, s, hv, -, -, -⟩ := laid_sentinel h.tail.tail.tail.tail.tail gSyn gSynT Tryz.underlying153 rowErr Tryz.underlying225 Tryz.underlying227 rfl rfl Tryz.underlying9 cErr cStr
    exact ⟨_, _, hv⟩

/-- Integers laid, as cells. -/
def flat : DataW Unit → List Value
  | .agg l => l.map fun
    | .lit (.int k z) => .int k z
    | _ => .int .u8 0
  | _ => []
noncomputable def laidWorldS (os : Os) : World :=
  let w1 := World.lay (World.lay (World.lay (World.lay (laidWorld os) 0 namesL) 8 (flat Rows.laid_internal_strconv_uint64pow10)) 9 (flat Rows.laid_math_bits_deBruijn32tab)) 10 (flat Rows.laid_math_bits_deBruijn64tab)
  let w2 := (w1.alloc (.cells #[.string ⟨#[118, 97, 108, 117, 101, 32, 111, 117, 116, 32, 111, 102, 32, 114, 97, 110, 103, 101]⟩] 227)).alloc (.cells #[.string ⟨#[105, 110, 118, 97, 108, 105, 100, 32, 115, 121, 110, 116, 97, 120]⟩] 227)
  World.lay (World.lay w2 5 [.iface 225 (.pointer (some ⟨w1.heap.size, 0, none⟩))]) 4 [.iface 225 (.pointer (some ⟨w1.heap.size + 1, 0, none⟩))]
set_option maxRecDepth 100000 in
theorem laid_metS (os : Os) : laidMet Tryz.prog laidS ((laidWorldS os).forCall (fun _ _ => 0) ⟨#[], #[], []⟩).memory :=
  laidMet_of_run' 8 (by kernel_rfl) (by kernel_rfl)
end Go.Proofs.YthjcifokmcbaoaaGreatDoor.st
