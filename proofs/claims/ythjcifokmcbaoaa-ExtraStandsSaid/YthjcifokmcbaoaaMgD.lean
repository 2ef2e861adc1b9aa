/- Laws and contracts on which the statement rests, part D: each text says what it proves, and its conditions. -/
import Derived.Test.YthjcifokmcbaoaaMgC
import Derived.Laws.StructEq
import Derived.Deep.QuietTactic
import Derived.BigQuiet
import Derived.Shelf.SlGeneric
import Derived.Ground.SlgnProg
import Derived.Ground.SlgfProg
import Derived.Shelf.SlicesQ.IndexFunc
import Derived.Shelf.SlicesE.Clone
import Derived.Test.YthjcifokmcbaoaaProg
import Derived.Test.YthjcifokmcbaoaaMgB
import Derived.Test.YthjcifokmcbaoaaMgA
import Derived.Sort.Row
import Derived.Sort.Grow
import Derived.WalkKit
import Derived.Maps.RangeWalk
import Derived.Maps.OwnSet
import Derived.Carry
/- Moves in memory; base.first, base.second, the document's Moves of layer 18. No conditions. -/
namespace Go.Proofs.Ythjcifokmcbaoaa.st
open Go.ChangeShapes Go.WideShapes Go.ChangeAt Go.RowKit gl ls

structure Mv where
  id : List UInt8
  needs : List (List UInt8)
  steps : List Sp
/-- A move's cells. -/
structure MvR where
  id : List UInt8
  pn : Option Addr
  nn : Nat
  cn : Nat
  ps : Option Addr
  ns : Nat
  cs : Nat
abbrev MvR.vn (r : MvR) : Value := .slice r.pn r.nn r.cn
abbrev MvR.vs (r : MvR) : Value := .slice r.ps r.ns r.cs
def mvC (r : MvR) : List Value := [.string (B r.id), r.vn, r.vs]
theorem mvC_len (r : MvR) : (mvC r).length = 3 := rfl
theorem mvC_one : ∀ (x : MvR), ∀ v ∈ mvC x, v.oneCell' = true := by
  intro x v hv
  simp only [mvC, List.mem_cons, List.not_mem_nil, or_false] at hv
  rcases hv with rfl | rfl | rfl <;> rfl
abbrev NewTx (M : Nat) (w : World) (v : Value) (l : List (List UInt8)) : Prop := rw.NewRw txC 1 9 M w v l
abbrev NewSp (M : Nat) (w : World) (v : Value) (l : List Sp) : Prop := rw.NewRw spC 5 35 M w v l
/-- A move in blocks from M on. -/
def Goes (M : Nat) (w : World) (r : MvR) (m : Mv) : Prop := r.id = m.id ∧ NewTx M w r.vn m.needs ∧ NewSp M w r.vs m.steps
def NewMv (M : Nat) (w : World) (v : Value) (R : List MvR) (l : List Mv) : Prop := rw.NewRw mvC 3 31 M w v R ∧ R.length = l.length ∧ ∀ (i : Nat) (r : MvR) (m : Mv), R[i]? = some r → l[i]? = some m → Goes M w r m
theorem Goes.later {M : Nat} {w w' : World} {r : MvR} {m : Mv} (h : Goes M w r m) (hb : Below w.heap.size w w') : Goes M w' r m := ⟨h.1, h.2.1.later hb, h.2.2.later hb⟩
theorem Goes.mono {M M' : Nat} {w : World} {r : MvR} {m : Mv} (h : Goes M w r m) (hM : M' ≤ M) : Goes M' w r m := ⟨h.1, h.2.1.mono hM, h.2.2.mono hM⟩
theorem NewMv.later {M : Nat} {w w' : World} {v : Value} {R : List MvR} {l : List Mv} (h : NewMv M w v R l) (hb : Below w.heap.size w w') : NewMv M w' v R l :=
  ⟨h.1.later hb, h.2.1, fun i r m h1 h2 => (h.2.2 i r m h1 h2).later hb⟩
theorem NewMv.mono {M M' : Nat} {w : World} {v : Value} {R : List MvR} {l : List Mv} (h : NewMv M w v R l) (hM : M' ≤ M) : NewMv M' w v R l :=
  ⟨h.1.mono hM, h.2.1, fun i r m h1 h2 => (h.2.2 i r m h1 h2).mono hM⟩
theorem new_lit {α : Type} {enc : α → List Value} {k : Nat} (hk : ∀ x, (enc x).length = k) {T : TypeId} {M g : Nat} {w : World} {l : List α} {cs : Array Value} (hM : M ≤ g) (h : w.heap[g]? = some (.cells cs T (0, 0))) (hc : cs.toList = rw.flat enc l) : rw.NewRw enc k T M w (.slice (some ⟨g, 0, none⟩) l.length l.length) l := by
  refine .inr ⟨g, l.length, cs, rfl, Nat.le_refl _, hM, h, ?_, fun i v hv => ?_⟩
  · rw [← Array.length_toList, hc, rw.flat_len hk]; exact Nat.le_refl _
  · rw [Nat.zero_add, ← Array.getElem?_toList, hc]; exact hv
def firstL : List Mv := [⟨[98, 48, 49], [], [⟨1, [109, 101, 116, 97], [118, 101, 114, 115, 105, 111, 110], [], [49]⟩, ⟨1, [117, 115, 101, 114, 115], [114, 111, 111, 116], [], [114, 111, 111, 116]⟩]⟩, ⟨[98, 48, 50], [[98, 48, 49]], [⟨1, [117, 115, 101, 114, 115], [103, 117, 101, 115, 116], [], [103, 117, 101, 115, 116]⟩]⟩, ⟨[98, 48, 51], [[98, 48, 49]], [⟨1, [108, 111, 103], [102, 105, 114, 115, 116], [], [115, 116, 97, 114, 116, 101, 100]⟩]⟩]
def firstR (w : World) : List MvR := [⟨[98, 48, 49], none, 0, 0, some ⟨w.heap.size, 0, none⟩, 2, 2⟩, ⟨[98, 48, 50], some ⟨w.heap.size + 1, 0, none⟩, 1, 1, some ⟨w.heap.size + 2, 0, none⟩, 1, 1⟩, ⟨[98, 48, 51], some ⟨w.heap.size + 3, 0, none⟩, 1, 1, some ⟨w.heap.size + 4, 0, none⟩, 1, 1⟩]
set_option maxHeartbeats 4000000 in
set_option maxRecDepth 100000 in
theorem first_any (w : World) : Calls Try.prog 32 #[] w fun e w' => (∃ v R, e = .returned v ∧ NewMv w.heap.size w' v R firstL) ∧ Below w.heap.size w w' := by
  obtain ⟨W0, hW0⟩ : ∃ W0, W0 = w.alloc (.cells #[.int .i64 1, .string ⟨#[109, 101, 116, 97]⟩, .string ⟨#[118, 101, 114, 115, 105, 111, 110]⟩, .string ⟨#[]⟩, .string ⟨#[49]⟩, .int .i64 1, .string ⟨#[117, 115, 101, 114, 115]⟩, .string ⟨#[114, 111, 111, 116]⟩, .string ⟨#[]⟩, .string ⟨#[114, 111, 111, 116]⟩] 35) := ⟨_, rfl⟩
  have z0 : W0.heap.size = w.heap.size + 1 := by rw [hW0]; simp
  have b0 : Below w.heap.size w W0 := by rw [hW0]; exact (Below.refl _ _).alloc (Nat.le_refl _) _
  have h0 : W0.heap[w.heap.size]? = some (.cells #[.int .i64 1, .string ⟨#[109, 101, 116, 97]⟩, .string ⟨#[118, 101, 114, 115, 105, 111, 110]⟩, .string ⟨#[]⟩, .string ⟨#[49]⟩, .int .i64 1, .string ⟨#[117, 115, 101, 114, 115]⟩, .string ⟨#[114, 111, 111, 116]⟩, .string ⟨#[]⟩, .string ⟨#[114, 111, 111, 116]⟩] 35 (0, 0)) := by have h := heap_alloc_new w (.cells #[.int .i64 1, .string ⟨#[109, 101, 116, 97]⟩, .string ⟨#[118, 101, 114, 115, 105, 111, 110]⟩, .string ⟨#[]⟩, .string ⟨#[49]⟩, .int .i64 1, .string ⟨#[117, 115, 101, 114, 115]⟩, .string ⟨#[114, 111, 111, 116]⟩, .string ⟨#[]⟩, .string ⟨#[114, 111, 111, 116]⟩] 35); rw [← hW0] at h; exact h
  obtain ⟨W1, hW1⟩ : ∃ W1, W1 = W0.alloc (.cells #[.string ⟨#[98, 48, 49]⟩] 9) := ⟨_, rfl⟩
  have z1 : W1.heap.size = w.heap.size + 2 := by rw [hW1]; simp [z0]
  have b1 : Below w.heap.size w W1 := by rw [hW1]; exact b0.alloc (by omega) _
  replace h0 := heap_al h0 (.cells #[.string ⟨#[98, 48, 49]⟩] 9)
  rw [← hW1] at h0
  have h1 : W1.heap[w.heap.size + 1]? = some (.cells #[.string ⟨#[98, 48, 49]⟩] 9 (0, 0)) := by have h := heap_alloc_new W0 (.cells #[.string ⟨#[98, 48, 49]⟩] 9); rw [← hW1, z0] at h; exact h
  obtain ⟨W2, hW2⟩ : ∃ W2, W2 = W1.alloc (.cells #[.int .i64 1, .string ⟨#[117, 115, 101, 114, 115]⟩, .string ⟨#[103, 117, 101, 115, 116]⟩, .string ⟨#[]⟩, .string ⟨#[103, 117, 101, 115, 116]⟩] 35) := ⟨_, rfl⟩
  have z2 : W2.heap.size = w.heap.size + 3 := by rw [hW2]; simp [z1]
  have b2 : Below w.heap.size w W2 := by rw [hW2]; exact b1.alloc (by omega) _
  replace h0 := heap_al h0 (.cells #[.int .i64 1, .string ⟨#[117, 115, 101, 114, 115]⟩, .string ⟨#[103, 117, 101, 115, 116]⟩, .string ⟨#[]⟩, .string ⟨#[103, 117, 101, 115, 116]⟩] 35)
  rw [← hW2] at h0
  replace h1 := heap_al h1 (.cells #[.int .i64 1, .string ⟨#[117, 115, 101, 114, 115]⟩, .string ⟨#[103, 117, 101, 115, 116]⟩, .string ⟨#[]⟩, .string ⟨#[103, 117, 101, 115, 116]⟩] 35)
  rw [← hW2] at h1
  have h2 : W2.heap[w.heap.size + 2]? = some (.cells #[.int .i64 1, .string ⟨#[117, 115, 101, 114, 115]⟩, .string ⟨#[103, 117, 101, 115, 116]⟩, .string ⟨#[]⟩, .string ⟨#[103, 117, 101, 115, 116]⟩] 35 (0, 0)) := by have h := heap_alloc_new W1 (.cells #[.int .i64 1, .string ⟨#[117, 115, 101, 114, 115]⟩, .string ⟨#[103, 117, 101, 115, 116]⟩, .string ⟨#[]⟩, .string ⟨#[103, 117, 101, 115, 116]⟩] 35); rw [← hW2, z1] at h; exact h
  obtain ⟨W3, hW3⟩ : ∃ W3, W3 = W2.alloc (.cells #[.string ⟨#[98, 48, 49]⟩] 9) := ⟨_, rfl⟩
  have z3 : W3.heap.size = w.heap.size + 4 := by rw [hW3]; simp [z2]
  have b3 : Below w.heap.size w W3 := by rw [hW3]; exact b2.alloc (by omega) _
  replace h0 := heap_al h0 (.cells #[.string ⟨#[98, 48, 49]⟩] 9)
  rw [← hW3] at h0
  replace h1 := heap_al h1 (.cells #[.string ⟨#[98, 48, 49]⟩] 9)
  rw [← hW3] at h1
  replace h2 := heap_al h2 (.cells #[.string ⟨#[98, 48, 49]⟩] 9)
  rw [← hW3] at h2
  have h3 : W3.heap[w.heap.size + 3]? = some (.cells #[.string ⟨#[98, 48, 49]⟩] 9 (0, 0)) := by have h := heap_alloc_new W2 (.cells #[.string ⟨#[98, 48, 49]⟩] 9); rw [← hW3, z2] at h; exact h
  obtain ⟨W4, hW4⟩ : ∃ W4, W4 = W3.alloc (.cells #[.int .i64 1, .string ⟨#[108, 111, 103]⟩, .string ⟨#[102, 105, 114, 115, 116]⟩, .string ⟨#[]⟩, .string ⟨#[115, 116, 97, 114, 116, 101, 100]⟩] 35) := ⟨_, rfl⟩
  have z4 : W4.heap.size = w.heap.size + 5 := by rw [hW4]; simp [z3]
  have b4 : Below w.heap.size w W4 := by rw [hW4]; exact b3.alloc (by omega) _
  replace h0 := heap_al h0 (.cells #[.int .i64 1, .string ⟨#[108, 111, 103]⟩, .string ⟨#[102, 105, 114, 115, 116]⟩, .string ⟨#[]⟩, .string ⟨#[115, 116, 97, 114, 116, 101, 100]⟩] 35)
  rw [← hW4] at h0
  replace h1 := heap_al h1 (.cells #[.int .i64 1, .string ⟨#[108, 111, 103]⟩, .string ⟨#[102, 105, 114, 115, 116]⟩, .string ⟨#[]⟩, .string ⟨#[115, 116, 97, 114, 116, 101, 100]⟩] 35)
  rw [← hW4] at h1
  replace h2 := heap_al h2 (.cells #[.int .i64 1, .string ⟨#[108, 111, 103]⟩, .string ⟨#[102, 105, 114, 115, 116]⟩, .string ⟨#[]⟩, .string ⟨#[115, 116, 97, 114, 116, 101, 100]⟩] 35)
  rw [← hW4] at h2
  replace h3 := heap_al h3 (.cells #[.int .i64 1, .string ⟨#[108, 111, 103]⟩, .string ⟨#[102, 105, 114, 115, 116]⟩, .string ⟨#[]⟩, .string ⟨#[115, 116, 97, 114, 116, 101, 100]⟩] 35)
  rw [← hW4] at h3
  have h4 : W4.heap[w.heap.size + 4]? = some (.cells #[.int .i64 1, .string ⟨#[108, 111, 103]⟩, .string ⟨#[102, 105, 114, 115, 116]⟩, .string ⟨#[]⟩, .string ⟨#[115, 116, 97, 114, 116, 101, 100]⟩] 35 (0, 0)) := by have h := heap_alloc_new W3 (.cells #[.int .i64 1, .string ⟨#[108, 111, 103]⟩, .string ⟨#[102, 105, 114, 115, 116]⟩, .string ⟨#[]⟩, .string ⟨#[115, 116, 97, 114, 116, 101, 100]⟩] 35); rw [← hW4, z3] at h; exact h
  obtain ⟨W5, hW5⟩ : ∃ W5, W5 = W4.alloc (.cells #[.string ⟨#[98, 48, 49]⟩, .slice none 0 0, .slice (some ⟨w.heap.size, 0, none⟩) 2 2, .string ⟨#[98, 48, 50]⟩, .slice (some ⟨w.heap.size + 1, 0, none⟩) 1 1, .slice (some ⟨w.heap.size + 2, 0, none⟩) 1 1, .string ⟨#[98, 48, 51]⟩, .slice (some ⟨w.heap.size + 3, 0, none⟩) 1 1, .slice (some ⟨w.heap.size + 4, 0, none⟩) 1 1] 31) := ⟨_, rfl⟩
  have z5 : W5.heap.size = w.heap.size + 6 := by rw [hW5]; simp [z4]
  have b5 : Below w.heap.size w W5 := by rw [hW5]; exact b4.alloc (by omega) _
  replace h0 := heap_al h0 (.cells #[.string ⟨#[98, 48, 49]⟩, .slice none 0 0, .slice (some ⟨w.heap.size, 0, none⟩) 2 2, .string ⟨#[98, 48, 50]⟩, .slice (some ⟨w.heap.size + 1, 0, none⟩) 1 1, .slice (some ⟨w.heap.size + 2, 0, none⟩) 1 1, .string ⟨#[98, 48, 51]⟩, .slice (some ⟨w.heap.size + 3, 0, none⟩) 1 1, .slice (some ⟨w.heap.size + 4, 0, none⟩) 1 1] 31)
  rw [← hW5] at h0
  replace h1 := heap_al h1 (.cells #[.string ⟨#[98, 48, 49]⟩, .slice none 0 0, .slice (some ⟨w.heap.size, 0, none⟩) 2 2, .string ⟨#[98, 48, 50]⟩, .slice (some ⟨w.heap.size + 1, 0, none⟩) 1 1, .slice (some ⟨w.heap.size + 2, 0, none⟩) 1 1, .string ⟨#[98, 48, 51]⟩, .slice (some ⟨w.heap.size + 3, 0, none⟩) 1 1, .slice (some ⟨w.heap.size + 4, 0, none⟩) 1 1] 31)
  rw [← hW5] at h1
  replace h2 := heap_al h2 (.cells #[.string ⟨#[98, 48, 49]⟩, .slice none 0 0, .slice (some ⟨w.heap.size, 0, none⟩) 2 2, .string ⟨#[98, 48, 50]⟩, .slice (some ⟨w.heap.size + 1, 0, none⟩) 1 1, .slice (some ⟨w.heap.size + 2, 0, none⟩) 1 1, .string ⟨#[98, 48, 51]⟩, .slice (some ⟨w.heap.size + 3, 0, none⟩) 1 1, .slice (some ⟨w.heap.size + 4, 0, none⟩) 1 1] 31)
  rw [← hW5] at h2
  replace h3 := heap_al h3 (.cells #[.string ⟨#[98, 48, 49]⟩, .slice none 0 0, .slice (some ⟨w.heap.size, 0, none⟩) 2 2, .string ⟨#[98, 48, 50]⟩, .slice (some ⟨w.heap.size + 1, 0, none⟩) 1 1, .slice (some ⟨w.heap.size + 2, 0, none⟩) 1 1, .string ⟨#[98, 48, 51]⟩, .slice (some ⟨w.heap.size + 3, 0, none⟩) 1 1, .slice (some ⟨w.heap.size + 4, 0, none⟩) 1 1] 31)
  rw [← hW5] at h3
  replace h4 := heap_al h4 (.cells #[.string ⟨#[98, 48, 49]⟩, .slice none 0 0, .slice (some ⟨w.heap.size, 0, none⟩) 2 2, .string ⟨#[98, 48, 50]⟩, .slice (some ⟨w.heap.size + 1, 0, none⟩) 1 1, .slice (some ⟨w.heap.size + 2, 0, none⟩) 1 1, .string ⟨#[98, 48, 51]⟩, .slice (some ⟨w.heap.size + 3, 0, none⟩) 1 1, .slice (some ⟨w.heap.size + 4, 0, none⟩) 1 1] 31)
  rw [← hW5] at h4
  have h5 : W5.heap[w.heap.size + 5]? = some (.cells #[.string ⟨#[98, 48, 49]⟩, .slice none 0 0, .slice (some ⟨w.heap.size, 0, none⟩) 2 2, .string ⟨#[98, 48, 50]⟩, .slice (some ⟨w.heap.size + 1, 0, none⟩) 1 1, .slice (some ⟨w.heap.size + 2, 0, none⟩) 1 1, .string ⟨#[98, 48, 51]⟩, .slice (some ⟨w.heap.size + 3, 0, none⟩) 1 1, .slice (some ⟨w.heap.size + 4, 0, none⟩) 1 1] 31 (0, 0)) := by have h := heap_alloc_new W4 (.cells #[.string ⟨#[98, 48, 49]⟩, .slice none 0 0, .slice (some ⟨w.heap.size, 0, none⟩) 2 2, .string ⟨#[98, 48, 50]⟩, .slice (some ⟨w.heap.size + 1, 0, none⟩) 1 1, .slice (some ⟨w.heap.size + 2, 0, none⟩) 1 1, .string ⟨#[98, 48, 51]⟩, .slice (some ⟨w.heap.size + 3, 0, none⟩) 1 1, .slice (some ⟨w.heap.size + 4, 0, none⟩) 1 1] 31); rw [← hW5, z4] at h; exact h
  have HN : Hid (NewMv w.heap.size W5 (.slice (some ⟨w.heap.size + 5, 0, none⟩) 3 3) (firstR w) firstL) := Lib.hid (by
    refine ⟨new_lit mvC_len (by omega) h5 rfl, rfl, fun i r m h1 h2 => ?_⟩
    match i with
    | 0 => simp only [firstR, firstL, List.getElem?_cons_zero, Option.some.injEq] at h1 h2; subst h1; subst h2; exact ⟨rfl, .inl ⟨rfl, rfl⟩, new_lit spC_len (by omega) h0 rfl⟩
    | 1 => simp only [firstR, firstL, List.getElem?_cons_succ, List.getElem?_cons_zero, Option.some.injEq] at h1 h2; subst h1; subst h2; exact ⟨rfl, new_lit txC_len (by omega) h1 rfl, new_lit spC_len (by omega) h2 rfl⟩
    | 2 => simp only [firstR, firstL, List.getElem?_cons_succ, List.getElem?_cons_zero, Option.some.injEq] at h1 h2; subst h1; subst h2; exact ⟨rfl, new_lit txC_len (by omega) h3 rfl, new_lit spC_len (by omega) h4 rfl⟩
    | i + 3 => simp [firstR] at h1)
  have HB := Lib.hid b5
  have HW0 := Lib.hid hW0
  have HW1 := Lib.hid hW1
  have HW2 := Lib.hid hW2
  have HW3 := Lib.hid hW3
  have HW4 := Lib.hid hW4
  have HW5 := Lib.hid hW5
  clear h0 b0 hW0 h1 b1 hW1 h2 b2 hW2 h3 b3 hW3 h4 b4 hW4 h5 b5 hW5
  go_enter Try.func32, Try.ntmps32
  go_wp2_with fail
  go_ret
  have E1 := HN.out
  have E2 := HB.out
  rw [HW5.out, HW4.out, HW3.out, HW2.out, HW1.out, HW0.out] at E1 E2
  exact ⟨⟨_, _, rfl, E1⟩, E2⟩
def secondL : List Mv := [⟨[98, 48, 52], [[98, 48, 50], [98, 48, 51]], [⟨3, [117, 115, 101, 114, 115], [114, 111, 111, 116], [97, 100, 109, 105, 110], []⟩]⟩, ⟨[98, 48, 53], [[98, 48, 50]], [⟨5, [117, 115, 101, 114, 115], [], [], [117, 112, 112, 101, 114]⟩]⟩, ⟨[98, 48, 54], [[98, 48, 52]], [⟨4, [108, 111, 103], [], [101, 118, 101, 110, 116, 115], []⟩]⟩]
def secondR (w : World) : List MvR := [⟨[98, 48, 52], some ⟨w.heap.size, 0, none⟩, 2, 2, some ⟨w.heap.size + 1, 0, none⟩, 1, 1⟩, ⟨[98, 48, 53], some ⟨w.heap.size + 2, 0, none⟩, 1, 1, some ⟨w.heap.size + 3, 0, none⟩, 1, 1⟩, ⟨[98, 48, 54], some ⟨w.heap.size + 4, 0, none⟩, 1, 1, some ⟨w.heap.size + 5, 0, none⟩, 1, 1⟩]
set_option maxHeartbeats 4000000 in
set_option maxRecDepth 100000 in
theorem second_any (w : World) : Calls Try.prog 33 #[] w fun e w' => (∃ v R, e = .returned v ∧ NewMv w.heap.size w' v R secondL) ∧ Below w.heap.size w w' := by
  obtain ⟨W0, hW0⟩ : ∃ W0, W0 = w.alloc (.cells #[.string ⟨#[98, 48, 50]⟩, .string ⟨#[98, 48, 51]⟩] 9) := ⟨_, rfl⟩
  have z0 : W0.heap.size = w.heap.size + 1 := by rw [hW0]; simp
  have b0 : Below w.heap.size w W0 := by rw [hW0]; exact (Below.refl _ _).alloc (Nat.le_refl _) _
  have h0 : W0.heap[w.heap.size]? = some (.cells #[.string ⟨#[98, 48, 50]⟩, .string ⟨#[98, 48, 51]⟩] 9 (0, 0)) := by have h := heap_alloc_new w (.cells #[.string ⟨#[98, 48, 50]⟩, .string ⟨#[98, 48, 51]⟩] 9); rw [← hW0] at h; exact h
  obtain ⟨W1, hW1⟩ : ∃ W1, W1 = W0.alloc (.cells #[.int .i64 3, .string ⟨#[117, 115, 101, 114, 115]⟩, .string ⟨#[114, 111, 111, 116]⟩, .string ⟨#[97, 100, 109, 105, 110]⟩, .string ⟨#[]⟩] 35) := ⟨_, rfl⟩
  have z1 : W1.heap.size = w.heap.size + 2 := by rw [hW1]; simp [z0]
  have b1 : Below w.heap.size w W1 := by rw [hW1]; exact b0.alloc (by omega) _
  replace h0 := heap_al h0 (.cells #[.int .i64 3, .string ⟨#[117, 115, 101, 114, 115]⟩, .string ⟨#[114, 111, 111, 116]⟩, .string ⟨#[97, 100, 109, 105, 110]⟩, .string ⟨#[]⟩] 35)
  rw [← hW1] at h0
  have h1 : W1.heap[w.heap.size + 1]? = some (.cells #[.int .i64 3, .string ⟨#[117, 115, 101, 114, 115]⟩, .string ⟨#[114, 111, 111, 116]⟩, .string ⟨#[97, 100, 109, 105, 110]⟩, .string ⟨#[]⟩] 35 (0, 0)) := by have h := heap_alloc_new W0 (.cells #[.int .i64 3, .string ⟨#[117, 115, 101, 114, 115]⟩, .string ⟨#[114, 111, 111, 116]⟩, .string ⟨#[97, 100, 109, 105, 110]⟩, .string ⟨#[]⟩] 35); rw [← hW1, z0] at h; exact h
  obtain ⟨W2, hW2⟩ : ∃ W2, W2 = W1.alloc (.cells #[.string ⟨#[98, 48, 50]⟩] 9) := ⟨_, rfl⟩
  have z2 : W2.heap.size = w.heap.size + 3 := by rw [hW2]; simp [z1]
  have b2 : Below w.heap.size w W2 := by rw [hW2]; exact b1.alloc (by omega) _
  replace h0 := heap_al h0 (.cells #[.string ⟨#[98, 48, 50]⟩] 9)
  rw [← hW2] at h0
  replace h1 := heap_al h1 (.cells #[.string ⟨#[98, 48, 50]⟩] 9)
  rw [← hW2] at h1
  have h2 : W2.heap[w.heap.size + 2]? = some (.cells #[.string ⟨#[98, 48, 50]⟩] 9 (0, 0)) := by have h := heap_alloc_new W1 (.cells #[.string ⟨#[98, 48, 50]⟩] 9); rw [← hW2, z1] at h; exact h
  obtain ⟨W3, hW3⟩ : ∃ W3, W3 = W2.alloc (.cells #[.int .i64 5, .string ⟨#[117, 115, 101, 114, 115]⟩, .string ⟨#[]⟩, .string ⟨#[]⟩, .string ⟨#[117, 112, 112, 101, 114]⟩] 35) := ⟨_, rfl⟩
  have z3 : W3.heap.size = w.heap.size + 4 := by rw [hW3]; simp [z2]
  have b3 : Below w.heap.size w W3 := by rw [hW3]; exact b2.alloc (by omega) _
  replace h0 := heap_al h0 (.cells #[.int .i64 5, .string ⟨#[117, 115, 101, 114, 115]⟩, .string ⟨#[]⟩, .string ⟨#[]⟩, .string ⟨#[117, 112, 112, 101, 114]⟩] 35)
  rw [← hW3] at h0
  replace h1 := heap_al h1 (.cells #[.int .i64 5, .string ⟨#[117, 115, 101, 114, 115]⟩, .string ⟨#[]⟩, .string ⟨#[]⟩, .string ⟨#[117, 112, 112, 101, 114]⟩] 35)
  rw [← hW3] at h1
  replace h2 := heap_al h2 (.cells #[.int .i64 5, .string ⟨#[117, 115, 101, 114, 115]⟩, .string ⟨#[]⟩, .string ⟨#[]⟩, .string ⟨#[117, 112, 112, 101, 114]⟩] 35)
  rw [← hW3] at h2
  have h3 : W3.heap[w.heap.size + 3]? = some (.cells #[.int .i64 5, .string ⟨#[117, 115, 101, 114, 115]⟩, .string ⟨#[]⟩, .string ⟨#[]⟩, .string ⟨#[117, 112, 112, 101, 114]⟩] 35 (0, 0)) := by have h := heap_alloc_new W2 (.cells #[.int .i64 5, .string ⟨#[117, 115, 101, 114, 115]⟩, .string ⟨#[]⟩, .string ⟨#[]⟩, .string ⟨#[117, 112, 112, 101, 114]⟩] 35); rw [← hW3, z2] at h; exact h
  obtain ⟨W4, hW4⟩ : ∃ W4, W4 = W3.alloc (.cells #[.string ⟨#[98, 48, 52]⟩] 9) := ⟨_, rfl⟩
  have z4 : W4.heap.size = w.heap.size + 5 := by rw [hW4]; simp [z3]
  have b4 : Below w.heap.size w W4 := by rw [hW4]; exact b3.alloc (by omega) _
  replace h0 := heap_al h0 (.cells #[.string ⟨#[98, 48, 52]⟩] 9)
  rw [← hW4] at h0
  replace h1 := heap_al h1 (.cells #[.string ⟨#[98, 48, 52]⟩] 9)
  rw [← hW4] at h1
  replace h2 := heap_al h2 (.cells #[.string ⟨#[98, 48, 52]⟩] 9)
  rw [← hW4] at h2
  replace h3 := heap_al h3 (.cells #[.string ⟨#[98, 48, 52]⟩] 9)
  rw [← hW4] at h3
  have h4 : W4.heap[w.heap.size + 4]? = some (.cells #[.string ⟨#[98, 48, 52]⟩] 9 (0, 0)) := by have h := heap_alloc_new W3 (.cells #[.string ⟨#[98, 48, 52]⟩] 9); rw [← hW4, z3] at h; exact h
  obtain ⟨W5, hW5⟩ : ∃ W5, W5 = W4.alloc (.cells #[.int .i64 4, .string ⟨#[108, 111, 103]⟩, .string ⟨#[]⟩, .string ⟨#[101, 118, 101, 110, 116, 115]⟩, .string ⟨#[]⟩] 35) := ⟨_, rfl⟩
  have z5 : W5.heap.size = w.heap.size + 6 := by rw [hW5]; simp [z4]
  have b5 : Below w.heap.size w W5 := by rw [hW5]; exact b4.alloc (by omega) _
  replace h0 := heap_al h0 (.cells #[.int .i64 4, .string ⟨#[108, 111, 103]⟩, .string ⟨#[]⟩, .string ⟨#[101, 118, 101, 110, 116, 115]⟩, .string ⟨#[]⟩] 35)
  rw [← hW5] at h0
  replace h1 := heap_al h1 (.cells #[.int .i64 4, .string ⟨#[108, 111, 103]⟩, .string ⟨#[]⟩, .string ⟨#[101, 118, 101, 110, 116, 115]⟩, .string ⟨#[]⟩] 35)
  rw [← hW5] at h1
  replace h2 := heap_al h2 (.cells #[.int .i64 4, .string ⟨#[108, 111, 103]⟩, .string ⟨#[]⟩, .string ⟨#[101, 118, 101, 110, 116, 115]⟩, .string ⟨#[]⟩] 35)
  rw [← hW5] at h2
  replace h3 := heap_al h3 (.cells #[.int .i64 4, .string ⟨#[108, 111, 103]⟩, .string ⟨#[]⟩, .string ⟨#[101, 118, 101, 110, 116, 115]⟩, .string ⟨#[]⟩] 35)
  rw [← hW5] at h3
  replace h4 := heap_al h4 (.cells #[.int .i64 4, .string ⟨#[108, 111, 103]⟩, .string ⟨#[]⟩, .string ⟨#[101, 118, 101, 110, 116, 115]⟩, .string ⟨#[]⟩] 35)
  rw [← hW5] at h4
  have h5 : W5.heap[w.heap.size + 5]? = some (.cells #[.int .i64 4, .string ⟨#[108, 111, 103]⟩, .string ⟨#[]⟩, .string ⟨#[101, 118, 101, 110, 116, 115]⟩, .string ⟨#[]⟩] 35 (0, 0)) := by have h := heap_alloc_new W4 (.cells #[.int .i64 4, .string ⟨#[108, 111, 103]⟩, .string ⟨#[]⟩, .string ⟨#[101, 118, 101, 110, 116, 115]⟩, .string ⟨#[]⟩] 35); rw [← hW5, z4] at h; exact h
  obtain ⟨W6, hW6⟩ : ∃ W6, W6 = W5.alloc (.cells #[.string ⟨#[98, 48, 52]⟩, .slice (some ⟨w.heap.size, 0, none⟩) 2 2, .slice (some ⟨w.heap.size + 1, 0, none⟩) 1 1, .string ⟨#[98, 48, 53]⟩, .slice (some ⟨w.heap.size + 2, 0, none⟩) 1 1, .slice (some ⟨w.heap.size + 3, 0, none⟩) 1 1, .string ⟨#[98, 48, 54]⟩, .slice (some ⟨w.heap.size + 4, 0, none⟩) 1 1, .slice (some ⟨w.heap.size + 5, 0, none⟩) 1 1] 31) := ⟨_, rfl⟩
  have z6 : W6.heap.size = w.heap.size + 7 := by rw [hW6]; simp [z5]
  have b6 : Below w.heap.size w W6 := by rw [hW6]; exact b5.alloc (by omega) _
  replace h0 := heap_al h0 (.cells #[.string ⟨#[98, 48, 52]⟩, .slice (some ⟨w.heap.size, 0, none⟩) 2 2, .slice (some ⟨w.heap.size + 1, 0, none⟩) 1 1, .string ⟨#[98, 48, 53]⟩, .slice (some ⟨w.heap.size + 2, 0, none⟩) 1 1, .slice (some ⟨w.heap.size + 3, 0, none⟩) 1 1, .string ⟨#[98, 48, 54]⟩, .slice (some ⟨w.heap.size + 4, 0, none⟩) 1 1, .slice (some ⟨w.heap.size + 5, 0, none⟩) 1 1] 31)
  rw [← hW6] at h0
  replace h1 := heap_al h1 (.cells #[.string ⟨#[98, 48, 52]⟩, .slice (some ⟨w.heap.size, 0, none⟩) 2 2, .slice (some ⟨w.heap.size + 1, 0, none⟩) 1 1, .string ⟨#[98, 48, 53]⟩, .slice (some ⟨w.heap.size + 2, 0, none⟩) 1 1, .slice (some ⟨w.heap.size + 3, 0, none⟩) 1 1, .string ⟨#[98, 48, 54]⟩, .slice (some ⟨w.heap.size + 4, 0, none⟩) 1 1, .slice (some ⟨w.heap.size + 5, 0, none⟩) 1 1] 31)
  rw [← hW6] at h1
  replace h2 := heap_al h2 (.cells #[.string ⟨#[98, 48, 52]⟩, .slice (some ⟨w.heap.size, 0, none⟩) 2 2, .slice (some ⟨w.heap.size + 1, 0, none⟩) 1 1, .string ⟨#[98, 48, 53]⟩, .slice (some ⟨w.heap.size + 2, 0, none⟩) 1 1, .slice (some ⟨w.heap.size + 3, 0, none⟩) 1 1, .string ⟨#[98, 48, 54]⟩, .slice (some ⟨w.heap.size + 4, 0, none⟩) 1 1, .slice (some ⟨w.heap.size + 5, 0, none⟩) 1 1] 31)
  rw [← hW6] at h2
  replace h3 := heap_al h3 (.cells #[.string ⟨#[98, 48, 52]⟩, .slice (some ⟨w.heap.size, 0, none⟩) 2 2, .slice (some ⟨w.heap.size + 1, 0, none⟩) 1 1, .string ⟨#[98, 48, 53]⟩, .slice (some ⟨w.heap.size + 2, 0, none⟩) 1 1, .slice (some ⟨w.heap.size + 3, 0, none⟩) 1 1, .string ⟨#[98, 48, 54]⟩, .slice (some ⟨w.heap.size + 4, 0, none⟩) 1 1, .slice (some ⟨w.heap.size + 5, 0, none⟩) 1 1] 31)
  rw [← hW6] at h3
  replace h4 := heap_al h4 (.cells #[.string ⟨#[98, 48, 52]⟩, .slice (some ⟨w.heap.size, 0, none⟩) 2 2, .slice (some ⟨w.heap.size + 1, 0, none⟩) 1 1, .string ⟨#[98, 48, 53]⟩, .slice (some ⟨w.heap.size + 2, 0, none⟩) 1 1, .slice (some ⟨w.heap.size + 3, 0, none⟩) 1 1, .string ⟨#[98, 48, 54]⟩, .slice (some ⟨w.heap.size + 4, 0, none⟩) 1 1, .slice (some ⟨w.heap.size + 5, 0, none⟩) 1 1] 31)
  rw [← hW6] at h4
  replace h5 := heap_al h5 (.cells #[.string ⟨#[98, 48, 52]⟩, .slice (some ⟨w.heap.size, 0, none⟩) 2 2, .slice (some ⟨w.heap.size + 1, 0, none⟩) 1 1, .string ⟨#[98, 48, 53]⟩, .slice (some ⟨w.heap.size + 2, 0, none⟩) 1 1, .slice (some ⟨w.heap.size + 3, 0, none⟩) 1 1, .string ⟨#[98, 48, 54]⟩, .slice (some ⟨w.heap.size + 4, 0, none⟩) 1 1, .slice (some ⟨w.heap.size + 5, 0, none⟩) 1 1] 31)
  rw [← hW6] at h5
  have h6 : W6.heap[w.heap.size + 6]? = some (.cells #[.string ⟨#[98, 48, 52]⟩, .slice (some ⟨w.heap.size, 0, none⟩) 2 2, .slice (some ⟨w.heap.size + 1, 0, none⟩) 1 1, .string ⟨#[98, 48, 53]⟩, .slice (some ⟨w.heap.size + 2, 0, none⟩) 1 1, .slice (some ⟨w.heap.size + 3, 0, none⟩) 1 1, .string ⟨#[98, 48, 54]⟩, .slice (some ⟨w.heap.size + 4, 0, none⟩) 1 1, .slice (some ⟨w.heap.size + 5, 0, none⟩) 1 1] 31 (0, 0)) := by have h := heap_alloc_new W5 (.cells #[.string ⟨#[98, 48, 52]⟩, .slice (some ⟨w.heap.size, 0, none⟩) 2 2, .slice (some ⟨w.heap.size + 1, 0, none⟩) 1 1, .string ⟨#[98, 48, 53]⟩, .slice (some ⟨w.heap.size + 2, 0, none⟩) 1 1, .slice (some ⟨w.heap.size + 3, 0, none⟩) 1 1, .string ⟨#[98, 48, 54]⟩, .slice (some ⟨w.heap.size + 4, 0, none⟩) 1 1, .slice (some ⟨w.heap.size + 5, 0, none⟩) 1 1] 31); rw [← hW6, z5] at h; exact h
  have HN : Hid (NewMv w.heap.size W6 (.slice (some ⟨w.heap.size + 6, 0, none⟩) 3 3) (secondR w) secondL) := Lib.hid (by
    refine ⟨new_lit mvC_len (by omega) h6 rfl, rfl, fun i r m h1 h2 => ?_⟩
    match i with
    | 0 => simp only [secondR, secondL, List.getElem?_cons_zero, Option.some.injEq] at h1 h2; subst h1; subst h2; exact ⟨rfl, new_lit txC_len (by omega) h0 rfl, new_lit spC_len (by omega) h1 rfl⟩
    | 1 => simp only [secondR, secondL, List.getElem?_cons_succ, List.getElem?_cons_zero, Option.some.injEq] at h1 h2; subst h1; subst h2; exact ⟨rfl, new_lit txC_len (by omega) h2 rfl, new_lit spC_len (by omega) h3 rfl⟩
    | 2 => simp only [secondR, secondL, List.getElem?_cons_succ, List.getElem?_cons_zero, Option.some.injEq] at h1 h2; subst h1; subst h2; exact ⟨rfl, new_lit txC_len (by omega) h4 rfl, new_lit spC_len (by omega) h5 rfl⟩
    | i + 3 => simp [secondR] at h1)
  have HB := Lib.hid b6
  have HW0 := Lib.hid hW0
  have HW1 := Lib.hid hW1
  have HW2 := Lib.hid hW2
  have HW3 := Lib.hid hW3
  have HW4 := Lib.hid hW4
  have HW5 := Lib.hid hW5
  have HW6 := Lib.hid hW6
  clear h0 b0 hW0 h1 b1 hW1 h2 b2 hW2 h3 b3 hW3 h4 b4 hW4 h5 b5 hW5 h6 b6 hW6
  go_enter Try.func33, Try.ntmps33
  go_wp2_with fail
  go_ret
  have E1 := HN.out
  have E2 := HB.out
  rw [HW6.out, HW5.out, HW4.out, HW3.out, HW2.out, HW1.out, HW0.out] at E1 E2
  exact ⟨⟨_, _, rfl, E1⟩, E2⟩
def baseL : List Mv := [⟨[98, 48, 49], [], [⟨1, [109, 101, 116, 97], [118, 101, 114, 115, 105, 111, 110], [], [49]⟩, ⟨1, [117, 115, 101, 114, 115], [114, 111, 111, 116], [], [114, 111, 111, 116]⟩]⟩, ⟨[98, 48, 50], [[98, 48, 49]], [⟨1, [117, 115, 101, 114, 115], [103, 117, 101, 115, 116], [], [103, 117, 101, 115, 116]⟩]⟩, ⟨[98, 48, 51], [[98, 48, 49]], [⟨1, [108, 111, 103], [102, 105, 114, 115, 116], [], [115, 116, 97, 114, 116, 101, 100]⟩]⟩, ⟨[98, 48, 52], [[98, 48, 50], [98, 48, 51]], [⟨3, [117, 115, 101, 114, 115], [114, 111, 111, 116], [97, 100, 109, 105, 110], []⟩]⟩, ⟨[98, 48, 53], [[98, 48, 50]], [⟨5, [117, 115, 101, 114, 115], [], [], [117, 112, 112, 101, 114]⟩]⟩, ⟨[98, 48, 54], [[98, 48, 52]], [⟨4, [108, 111, 103], [], [101, 118, 101, 110, 116, 115], []⟩]⟩]
def baseR (w : World) : List MvR := [⟨[98, 48, 49], none, 0, 0, some ⟨w.heap.size, 0, none⟩, 2, 2⟩, ⟨[98, 48, 50], some ⟨w.heap.size + 1, 0, none⟩, 1, 1, some ⟨w.heap.size + 2, 0, none⟩, 1, 1⟩, ⟨[98, 48, 51], some ⟨w.heap.size + 3, 0, none⟩, 1, 1, some ⟨w.heap.size + 4, 0, none⟩, 1, 1⟩, ⟨[98, 48, 52], some ⟨w.heap.size + 5, 0, none⟩, 2, 2, some ⟨w.heap.size + 6, 0, none⟩, 1, 1⟩, ⟨[98, 48, 53], some ⟨w.heap.size + 7, 0, none⟩, 1, 1, some ⟨w.heap.size + 8, 0, none⟩, 1, 1⟩, ⟨[98, 48, 54], some ⟨w.heap.size + 9, 0, none⟩, 1, 1, some ⟨w.heap.size + 10, 0, none⟩, 1, 1⟩]
set_option maxHeartbeats 4000000 in
set_option maxRecDepth 100000 in
theorem base_any (w : World) : Calls Try.prog 17 #[] w fun e w' => (∃ v R, e = .returned v ∧ NewMv w.heap.size w' v R baseL) ∧ Below w.heap.size w w' := by
  obtain ⟨W0, hW0⟩ : ∃ W0, W0 = w.alloc (.cells #[.int .i64 1, .string ⟨#[109, 101, 116, 97]⟩, .string ⟨#[118, 101, 114, 115, 105, 111, 110]⟩, .string ⟨#[]⟩, .string ⟨#[49]⟩, .int .i64 1, .string ⟨#[117, 115, 101, 114, 115]⟩, .string ⟨#[114, 111, 111, 116]⟩, .string ⟨#[]⟩, .string ⟨#[114, 111, 111, 116]⟩] 35) := ⟨_, rfl⟩
  have z0 : W0.heap.size = w.heap.size + 1 := by rw [hW0]; simp
  have b0 : Below w.heap.size w W0 := by rw [hW0]; exact (Below.refl _ _).alloc (Nat.le_refl _) _
  have h0 : W0.heap[w.heap.size]? = some (.cells #[.int .i64 1, .string ⟨#[109, 101, 116, 97]⟩, .string ⟨#[118, 101, 114, 115, 105, 111, 110]⟩, .string ⟨#[]⟩, .string ⟨#[49]⟩, .int .i64 1, .string ⟨#[117, 115, 101, 114, 115]⟩, .string ⟨#[114, 111, 111, 116]⟩, .string ⟨#[]⟩, .string ⟨#[114, 111, 111, 116]⟩] 35 (0, 0)) := by have h := heap_alloc_new w (.cells #[.int .i64 1, .string ⟨#[109, 101, 116, 97]⟩, .string ⟨#[118, 101, 114, 115, 105, 111, 110]⟩, .string ⟨#[]⟩, .string ⟨#[49]⟩, .int .i64 1, .string ⟨#[117, 115, 101, 114, 115]⟩, .string ⟨#[114, 111, 111, 116]⟩, .string ⟨#[]⟩, .string ⟨#[114, 111, 111, 116]⟩] 35); rw [← hW0] at h; exact h
  obtain ⟨W1, hW1⟩ : ∃ W1, W1 = W0.alloc (.cells #[.string ⟨#[98, 48, 49]⟩] 9) := ⟨_, rfl⟩
  have z1 : W1.heap.size = w.heap.size + 2 := by rw [hW1]; simp [z0]
  have b1 : Below w.heap.size w W1 := by rw [hW1]; exact b0.alloc (by omega) _
  replace h0 := heap_al h0 (.cells #[.string ⟨#[98, 48, 49]⟩] 9)
  rw [← hW1] at h0
  have h1 : W1.heap[w.heap.size + 1]? = some (.cells #[.string ⟨#[98, 48, 49]⟩] 9 (0, 0)) := by have h := heap_alloc_new W0 (.cells #[.string ⟨#[98, 48, 49]⟩] 9); rw [← hW1, z0] at h; exact h
  obtain ⟨W2, hW2⟩ : ∃ W2, W2 = W1.alloc (.cells #[.int .i64 1, .string ⟨#[117, 115, 101, 114, 115]⟩, .string ⟨#[103, 117, 101, 115, 116]⟩, .string ⟨#[]⟩, .string ⟨#[103, 117, 101, 115, 116]⟩] 35) := ⟨_, rfl⟩
  have z2 : W2.heap.size = w.heap.size + 3 := by rw [hW2]; simp [z1]
  have b2 : Below w.heap.size w W2 := by rw [hW2]; exact b1.alloc (by omega) _
  replace h0 := heap_al h0 (.cells #[.int .i64 1, .string ⟨#[117, 115, 101, 114, 115]⟩, .string ⟨#[103, 117, 101, 115, 116]⟩, .string ⟨#[]⟩, .string ⟨#[103, 117, 101, 115, 116]⟩] 35)
  rw [← hW2] at h0
  replace h1 := heap_al h1 (.cells #[.int .i64 1, .string ⟨#[117, 115, 101, 114, 115]⟩, .string ⟨#[103, 117, 101, 115, 116]⟩, .string ⟨#[]⟩, .string ⟨#[103, 117, 101, 115, 116]⟩] 35)
  rw [← hW2] at h1
  have h2 : W2.heap[w.heap.size + 2]? = some (.cells #[.int .i64 1, .string ⟨#[117, 115, 101, 114, 115]⟩, .string ⟨#[103, 117, 101, 115, 116]⟩, .string ⟨#[]⟩, .string ⟨#[103, 117, 101, 115, 116]⟩] 35 (0, 0)) := by have h := heap_alloc_new W1 (.cells #[.int .i64 1, .string ⟨#[117, 115, 101, 114, 115]⟩, .string ⟨#[103, 117, 101, 115, 116]⟩, .string ⟨#[]⟩, .string ⟨#[103, 117, 101, 115, 116]⟩] 35); rw [← hW2, z1] at h; exact h
  obtain ⟨W3, hW3⟩ : ∃ W3, W3 = W2.alloc (.cells #[.string ⟨#[98, 48, 49]⟩] 9) := ⟨_, rfl⟩
  have z3 : W3.heap.size = w.heap.size + 4 := by rw [hW3]; simp [z2]
  have b3 : Below w.heap.size w W3 := by rw [hW3]; exact b2.alloc (by omega) _
  replace h0 := heap_al h0 (.cells #[.string ⟨#[98, 48, 49]⟩] 9)
  rw [← hW3] at h0
  replace h1 := heap_al h1 (.cells #[.string ⟨#[98, 48, 49]⟩] 9)
  rw [← hW3] at h1
  replace h2 := heap_al h2 (.cells #[.string ⟨#[98, 48, 49]⟩] 9)
  rw [← hW3] at h2
  have h3 : W3.heap[w.heap.size + 3]? = some (.cells #[.string ⟨#[98, 48, 49]⟩] 9 (0, 0)) := by have h := heap_alloc_new W2 (.cells #[.string ⟨#[98, 48, 49]⟩] 9); rw [← hW3, z2] at h; exact h
  obtain ⟨W4, hW4⟩ : ∃ W4, W4 = W3.alloc (.cells #[.int .i64 1, .string ⟨#[108, 111, 103]⟩, .string ⟨#[102, 105, 114, 115, 116]⟩, .string ⟨#[]⟩, .string ⟨#[115, 116, 97, 114, 116, 101, 100]⟩] 35) := ⟨_, rfl⟩
  have z4 : W4.heap.size = w.heap.size + 5 := by rw [hW4]; simp [z3]
  have b4 : Below w.heap.size w W4 := by rw [hW4]; exact b3.alloc (by omega) _
  replace h0 := heap_al h0 (.cells #[.int .i64 1, .string ⟨#[108, 111, 103]⟩, .string ⟨#[102, 105, 114, 115, 116]⟩, .string ⟨#[]⟩, .string ⟨#[115, 116, 97, 114, 116, 101, 100]⟩] 35)
  rw [← hW4] at h0
  replace h1 := heap_al h1 (.cells #[.int .i64 1, .string ⟨#[108, 111, 103]⟩, .string ⟨#[102, 105, 114, 115, 116]⟩, .string ⟨#[]⟩, .string ⟨#[115, 116, 97, 114, 116, 101, 100]⟩] 35)
  rw [← hW4] at h1
  replace h2 := heap_al h2 (.cells #[.int .i64 1, .string ⟨#[108, 111, 103]⟩, .string ⟨#[102, 105, 114, 115, 116]⟩, .string ⟨#[]⟩, .string ⟨#[115, 116, 97, 114, 116, 101, 100]⟩] 35)
  rw [← hW4] at h2
  replace h3 := heap_al h3 (.cells #[.int .i64 1, .string ⟨#[108, 111, 103]⟩, .string ⟨#[102, 105, 114, 115, 116]⟩, .string ⟨#[]⟩, .string ⟨#[115, 116, 97, 114, 116, 101, 100]⟩] 35)
  rw [← hW4] at h3
  have h4 : W4.heap[w.heap.size + 4]? = some (.cells #[.int .i64 1, .string ⟨#[108, 111, 103]⟩, .string ⟨#[102, 105, 114, 115, 116]⟩, .string ⟨#[]⟩, .string ⟨#[115, 116, 97, 114, 116, 101, 100]⟩] 35 (0, 0)) := by have h := heap_alloc_new W3 (.cells #[.int .i64 1, .string ⟨#[108, 111, 103]⟩, .string ⟨#[102, 105, 114, 115, 116]⟩, .string ⟨#[]⟩, .string ⟨#[115, 116, 97, 114, 116, 101, 100]⟩] 35); rw [← hW4, z3] at h; exact h
  obtain ⟨W5, hW5⟩ : ∃ W5, W5 = W4.alloc (.cells #[.string ⟨#[98, 48, 50]⟩, .string ⟨#[98, 48, 51]⟩] 9) := ⟨_, rfl⟩
  have z5 : W5.heap.size = w.heap.size + 6 := by rw [hW5]; simp [z4]
  have b5 : Below w.heap.size w W5 := by rw [hW5]; exact b4.alloc (by omega) _
  replace h0 := heap_al h0 (.cells #[.string ⟨#[98, 48, 50]⟩, .string ⟨#[98, 48, 51]⟩] 9)
  rw [← hW5] at h0
  replace h1 := heap_al h1 (.cells #[.string ⟨#[98, 48, 50]⟩, .string ⟨#[98, 48, 51]⟩] 9)
  rw [← hW5] at h1
  replace h2 := heap_al h2 (.cells #[.string ⟨#[98, 48, 50]⟩, .string ⟨#[98, 48, 51]⟩] 9)
  rw [← hW5] at h2
  replace h3 := heap_al h3 (.cells #[.string ⟨#[98, 48, 50]⟩, .string ⟨#[98, 48, 51]⟩] 9)
  rw [← hW5] at h3
  replace h4 := heap_al h4 (.cells #[.string ⟨#[98, 48, 50]⟩, .string ⟨#[98, 48, 51]⟩] 9)
  rw [← hW5] at h4
  have h5 : W5.heap[w.heap.size + 5]? = some (.cells #[.string ⟨#[98, 48, 50]⟩, .string ⟨#[98, 48, 51]⟩] 9 (0, 0)) := by have h := heap_alloc_new W4 (.cells #[.string ⟨#[98, 48, 50]⟩, .string ⟨#[98, 48, 51]⟩] 9); rw [← hW5, z4] at h; exact h
  obtain ⟨W6, hW6⟩ : ∃ W6, W6 = W5.alloc (.cells #[.int .i64 3, .string ⟨#[117, 115, 101, 114, 115]⟩, .string ⟨#[114, 111, 111, 116]⟩, .string ⟨#[97, 100, 109, 105, 110]⟩, .string ⟨#[]⟩] 35) := ⟨_, rfl⟩
  have z6 : W6.heap.size = w.heap.size + 7 := by rw [hW6]; simp [z5]
  have b6 : Below w.heap.size w W6 := by rw [hW6]; exact b5.alloc (by omega) _
  replace h0 := heap_al h0 (.cells #[.int .i64 3, .string ⟨#[117, 115, 101, 114, 115]⟩, .string ⟨#[114, 111, 111, 116]⟩, .string ⟨#[97, 100, 109, 105, 110]⟩, .string ⟨#[]⟩] 35)
  rw [← hW6] at h0
  replace h1 := heap_al h1 (.cells #[.int .i64 3, .string ⟨#[117, 115, 101, 114, 115]⟩, .string ⟨#[114, 111, 111, 116]⟩, .string ⟨#[97, 100, 109, 105, 110]⟩, .string ⟨#[]⟩] 35)
  rw [← hW6] at h1
  replace h2 := heap_al h2 (.cells #[.int .i64 3, .string ⟨#[117, 115, 101, 114, 115]⟩, .string ⟨#[114, 111, 111, 116]⟩, .string ⟨#[97, 100, 109, 105, 110]⟩, .string ⟨#[]⟩] 35)
  rw [← hW6] at h2
  replace h3 := heap_al h3 (.cells #[.int .i64 3, .string ⟨#[117, 115, 101, 114, 115]⟩, .string ⟨#[114, 111, 111, 116]⟩, .string ⟨#[97, 100, 109, 105, 110]⟩, .string ⟨#[]⟩] 35)
  rw [← hW6] at h3
  replace h4 := heap_al h4 (.cells #[.int .i64 3, .string ⟨#[117, 115, 101, 114, 115]⟩, .string ⟨#[114, 111, 111, 116]⟩, .string ⟨#[97, 100, 109, 105, 110]⟩, .string ⟨#[]⟩] 35)
  rw [← hW6] at h4
  replace h5 := heap_al h5 (.cells #[.int .i64 3, .string ⟨#[117, 115, 101, 114, 115]⟩, .string ⟨#[114, 111, 111, 116]⟩, .string ⟨#[97, 100, 109, 105, 110]⟩, .string ⟨#[]⟩] 35)
  rw [← hW6] at h5
  have h6 : W6.heap[w.heap.size + 6]? = some (.cells #[.int .i64 3, .string ⟨#[117, 115, 101, 114, 115]⟩, .string ⟨#[114, 111, 111, 116]⟩, .string ⟨#[97, 100, 109, 105, 110]⟩, .string ⟨#[]⟩] 35 (0, 0)) := by have h := heap_alloc_new W5 (.cells #[.int .i64 3, .string ⟨#[117, 115, 101, 114, 115]⟩, .string ⟨#[114, 111, 111, 116]⟩, .string ⟨#[97, 100, 109, 105, 110]⟩, .string ⟨#[]⟩] 35); rw [← hW6, z5] at h; exact h
  obtain ⟨W7, hW7⟩ : ∃ W7, W7 = W6.alloc (.cells #[.string ⟨#[98, 48, 50]⟩] 9) := ⟨_, rfl⟩
  have z7 : W7.heap.size = w.heap.size + 8 := by rw [hW7]; simp [z6]
  have b7 : Below w.heap.size w W7 := by rw [hW7]; exact b6.alloc (by omega) _
  replace h0 := heap_al h0 (.cells #[.string ⟨#[98, 48, 50]⟩] 9)
  rw [← hW7] at h0
  replace h1 := heap_al h1 (.cells #[.string ⟨#[98, 48, 50]⟩] 9)
  rw [← hW7] at h1
  replace h2 := heap_al h2 (.cells #[.string ⟨#[98, 48, 50]⟩] 9)
  rw [← hW7] at h2
  replace h3 := heap_al h3 (.cells #[.string ⟨#[98, 48, 50]⟩] 9)
  rw [← hW7] at h3
  replace h4 := heap_al h4 (.cells #[.string ⟨#[98, 48, 50]⟩] 9)
  rw [← hW7] at h4
  replace h5 := heap_al h5 (.cells #[.string ⟨#[98, 48, 50]⟩] 9)
  rw [← hW7] at h5
  replace h6 := heap_al h6 (.cells #[.string ⟨#[98, 48, 50]⟩] 9)
  rw [← hW7] at h6
  have h7 : W7.heap[w.heap.size + 7]? = some (.cells #[.string ⟨#[98, 48, 50]⟩] 9 (0, 0)) := by have h := heap_alloc_new W6 (.cells #[.string ⟨#[98, 48, 50]⟩] 9); rw [← hW7, z6] at h; exact h
  obtain ⟨W8, hW8⟩ : ∃ W8, W8 = W7.alloc (.cells #[.int .i64 5, .string ⟨#[117, 115, 101, 114, 115]⟩, .string ⟨#[]⟩, .string ⟨#[]⟩, .string ⟨#[117, 112, 112, 101, 114]⟩] 35) := ⟨_, rfl⟩
  have z8 : W8.heap.size = w.heap.size + 9 := by rw [hW8]; simp [z7]
  have b8 : Below w.heap.size w W8 := by rw [hW8]; exact b7.alloc (by omega) _
  replace h0 := heap_al h0 (.cells #[.int .i64 5, .string ⟨#[117, 115, 101, 114, 115]⟩, .string ⟨#[]⟩, .string ⟨#[]⟩, .string ⟨#[117, 112, 112, 101, 114]⟩] 35)
  rw [← hW8] at h0
  replace h1 := heap_al h1 (.cells #[.int .i64 5, .string ⟨#[117, 115, 101, 114, 115]⟩, .string ⟨#[]⟩, .string ⟨#[]⟩, .string ⟨#[117, 112, 112, 101, 114]⟩] 35)
  rw [← hW8] at h1
  replace h2 := heap_al h2 (.cells #[.int .i64 5, .string ⟨#[117, 115, 101, 114, 115]⟩, .string ⟨#[]⟩, .string ⟨#[]⟩, .string ⟨#[117, 112, 112, 101, 114]⟩] 35)
  rw [← hW8] at h2
  replace h3 := heap_al h3 (.cells #[.int .i64 5, .string ⟨#[117, 115, 101, 114, 115]⟩, .string ⟨#[]⟩, .string ⟨#[]⟩, .string ⟨#[117, 112, 112, 101, 114]⟩] 35)
  rw [← hW8] at h3
  replace h4 := heap_al h4 (.cells #[.int .i64 5, .string ⟨#[117, 115, 101, 114, 115]⟩, .string ⟨#[]⟩, .string ⟨#[]⟩, .string ⟨#[117, 112, 112, 101, 114]⟩] 35)
  rw [← hW8] at h4
  replace h5 := heap_al h5 (.cells #[.int .i64 5, .string ⟨#[117, 115, 101, 114, 115]⟩, .string ⟨#[]⟩, .string ⟨#[]⟩, .string ⟨#[117, 112, 112, 101, 114]⟩] 35)
  rw [← hW8] at h5
  replace h6 := heap_al h6 (.cells #[.int .i64 5, .string ⟨#[117, 115, 101, 114, 115]⟩, .string ⟨#[]⟩, .string ⟨#[]⟩, .string ⟨#[117, 112, 112, 101, 114]⟩] 35)
  rw [← hW8] at h6
  replace h7 := heap_al h7 (.cells #[.int .i64 5, .string ⟨#[117, 115, 101, 114, 115]⟩, .string ⟨#[]⟩, .string ⟨#[]⟩, .string ⟨#[117, 112, 112, 101, 114]⟩] 35)
  rw [← hW8] at h7
  have h8 : W8.heap[w.heap.size + 8]? = some (.cells #[.int .i64 5, .string ⟨#[117, 115, 101, 114, 115]⟩, .string ⟨#[]⟩, .string ⟨#[]⟩, .string ⟨#[117, 112, 112, 101, 114]⟩] 35 (0, 0)) := by have h := heap_alloc_new W7 (.cells #[.int .i64 5, .string ⟨#[117, 115, 101, 114, 115]⟩, .string ⟨#[]⟩, .string ⟨#[]⟩, .string ⟨#[117, 112, 112, 101, 114]⟩] 35); rw [← hW8, z7] at h; exact h
  obtain ⟨W9, hW9⟩ : ∃ W9, W9 = W8.alloc (.cells #[.string ⟨#[98, 48, 52]⟩] 9) := ⟨_, rfl⟩
  have z9 : W9.heap.size = w.heap.size + 10 := by rw [hW9]; simp [z8]
  have b9 : Below w.heap.size w W9 := by rw [hW9]; exact b8.alloc (by omega) _
  replace h0 := heap_al h0 (.cells #[.string ⟨#[98, 48, 52]⟩] 9)
  rw [← hW9] at h0
  replace h1 := heap_al h1 (.cells #[.string ⟨#[98, 48, 52]⟩] 9)
  rw [← hW9] at h1
  replace h2 := heap_al h2 (.cells #[.string ⟨#[98, 48, 52]⟩] 9)
  rw [← hW9] at h2
  replace h3 := heap_al h3 (.cells #[.string ⟨#[98, 48, 52]⟩] 9)
  rw [← hW9] at h3
  replace h4 := heap_al h4 (.cells #[.string ⟨#[98, 48, 52]⟩] 9)
  rw [← hW9] at h4
  replace h5 := heap_al h5 (.cells #[.string ⟨#[98, 48, 52]⟩] 9)
  rw [← hW9] at h5
  replace h6 := heap_al h6 (.cells #[.string ⟨#[98, 48, 52]⟩] 9)
  rw [← hW9] at h6
  replace h7 := heap_al h7 (.cells #[.string ⟨#[98, 48, 52]⟩] 9)
  rw [← hW9] at h7
  replace h8 := heap_al h8 (.cells #[.string ⟨#[98, 48, 52]⟩] 9)
  rw [← hW9] at h8
  have h9 : W9.heap[w.heap.size + 9]? = some (.cells #[.string ⟨#[98, 48, 52]⟩] 9 (0, 0)) := by have h := heap_alloc_new W8 (.cells #[.string ⟨#[98, 48, 52]⟩] 9); rw [← hW9, z8] at h; exact h
  obtain ⟨W10, hW10⟩ : ∃ W10, W10 = W9.alloc (.cells #[.int .i64 4, .string ⟨#[108, 111, 103]⟩, .string ⟨#[]⟩, .string ⟨#[101, 118, 101, 110, 116, 115]⟩, .string ⟨#[]⟩] 35) := ⟨_, rfl⟩
  have z10 : W10.heap.size = w.heap.size + 11 := by rw [hW10]; simp [z9]
  have b10 : Below w.heap.size w W10 := by rw [hW10]; exact b9.alloc (by omega) _
  replace h0 := heap_al h0 (.cells #[.int .i64 4, .string ⟨#[108, 111, 103]⟩, .string ⟨#[]⟩, .string ⟨#[101, 118, 101, 110, 116, 115]⟩, .string ⟨#[]⟩] 35)
  rw [← hW10] at h0
  replace h1 := heap_al h1 (.cells #[.int .i64 4, .string ⟨#[108, 111, 103]⟩, .string ⟨#[]⟩, .string ⟨#[101, 118, 101, 110, 116, 115]⟩, .string ⟨#[]⟩] 35)
  rw [← hW10] at h1
  replace h2 := heap_al h2 (.cells #[.int .i64 4, .string ⟨#[108, 111, 103]⟩, .string ⟨#[]⟩, .string ⟨#[101, 118, 101, 110, 116, 115]⟩, .string ⟨#[]⟩] 35)
  rw [← hW10] at h2
  replace h3 := heap_al h3 (.cells #[.int .i64 4, .string ⟨#[108, 111, 103]⟩, .string ⟨#[]⟩, .string ⟨#[101, 118, 101, 110, 116, 115]⟩, .string ⟨#[]⟩] 35)
  rw [← hW10] at h3
  replace h4 := heap_al h4 (.cells #[.int .i64 4, .string ⟨#[108, 111, 103]⟩, .string ⟨#[]⟩, .string ⟨#[101, 118, 101, 110, 116, 115]⟩, .string ⟨#[]⟩] 35)
  rw [← hW10] at h4
  replace h5 := heap_al h5 (.cells #[.int .i64 4, .string ⟨#[108, 111, 103]⟩, .string ⟨#[]⟩, .string ⟨#[101, 118, 101, 110, 116, 115]⟩, .string ⟨#[]⟩] 35)
  rw [← hW10] at h5
  replace h6 := heap_al h6 (.cells #[.int .i64 4, .string ⟨#[108, 111, 103]⟩, .string ⟨#[]⟩, .string ⟨#[101, 118, 101, 110, 116, 115]⟩, .string ⟨#[]⟩] 35)
  rw [← hW10] at h6
  replace h7 := heap_al h7 (.cells #[.int .i64 4, .string ⟨#[108, 111, 103]⟩, .string ⟨#[]⟩, .string ⟨#[101, 118, 101, 110, 116, 115]⟩, .string ⟨#[]⟩] 35)
  rw [← hW10] at h7
  replace h8 := heap_al h8 (.cells #[.int .i64 4, .string ⟨#[108, 111, 103]⟩, .string ⟨#[]⟩, .string ⟨#[101, 118, 101, 110, 116, 115]⟩, .string ⟨#[]⟩] 35)
  rw [← hW10] at h8
  replace h9 := heap_al h9 (.cells #[.int .i64 4, .string ⟨#[108, 111, 103]⟩, .string ⟨#[]⟩, .string ⟨#[101, 118, 101, 110, 116, 115]⟩, .string ⟨#[]⟩] 35)
  rw [← hW10] at h9
  have h10 : W10.heap[w.heap.size + 10]? = some (.cells #[.int .i64 4, .string ⟨#[108, 111, 103]⟩, .string ⟨#[]⟩, .string ⟨#[101, 118, 101, 110, 116, 115]⟩, .string ⟨#[]⟩] 35 (0, 0)) := by have h := heap_alloc_new W9 (.cells #[.int .i64 4, .string ⟨#[108, 111, 103]⟩, .string ⟨#[]⟩, .string ⟨#[101, 118, 101, 110, 116, 115]⟩, .string ⟨#[]⟩] 35); rw [← hW10, z9] at h; exact h
  obtain ⟨W11, hW11⟩ : ∃ W11, W11 = W10.alloc (.cells #[.string ⟨#[98, 48, 49]⟩, .slice none 0 0, .slice (some ⟨w.heap.size, 0, none⟩) 2 2, .string ⟨#[98, 48, 50]⟩, .slice (some ⟨w.heap.size + 1, 0, none⟩) 1 1, .slice (some ⟨w.heap.size + 2, 0, none⟩) 1 1, .string ⟨#[98, 48, 51]⟩, .slice (some ⟨w.heap.size + 3, 0, none⟩) 1 1, .slice (some ⟨w.heap.size + 4, 0, none⟩) 1 1, .string ⟨#[98, 48, 52]⟩, .slice (some ⟨w.heap.size + 5, 0, none⟩) 2 2, .slice (some ⟨w.heap.size + 6, 0, none⟩) 1 1, .string ⟨#[98, 48, 53]⟩, .slice (some ⟨w.heap.size + 7, 0, none⟩) 1 1, .slice (some ⟨w.heap.size + 8, 0, none⟩) 1 1, .string ⟨#[98, 48, 54]⟩, .slice (some ⟨w.heap.size + 9, 0, none⟩) 1 1, .slice (some ⟨w.heap.size + 10, 0, none⟩) 1 1] 31) := ⟨_, rfl⟩
  have z11 : W11.heap.size = w.heap.size + 12 := by rw [hW11]; simp [z10]
  have b11 : Below w.heap.size w W11 := by rw [hW11]; exact b10.alloc (by omega) _
  replace h0 := heap_al h0 (.cells #[.string ⟨#[98, 48, 49]⟩, .slice none 0 0, .slice (some ⟨w.heap.size, 0, none⟩) 2 2, .string ⟨#[98, 48, 50]⟩, .slice (some ⟨w.heap.size + 1, 0, none⟩) 1 1, .slice (some ⟨w.heap.size + 2, 0, none⟩) 1 1, .string ⟨#[98, 48, 51]⟩, .slice (some ⟨w.heap.size + 3, 0, none⟩) 1 1, .slice (some ⟨w.heap.size + 4, 0, none⟩) 1 1, .string ⟨#[98, 48, 52]⟩, .slice (some ⟨w.heap.size + 5, 0, none⟩) 2 2, .slice (some ⟨w.heap.size + 6, 0, none⟩) 1 1, .string ⟨#[98, 48, 53]⟩, .slice (some ⟨w.heap.size + 7, 0, none⟩) 1 1, .slice (some ⟨w.heap.size + 8, 0, none⟩) 1 1, .string ⟨#[98, 48, 54]⟩, .slice (some ⟨w.heap.size + 9, 0, none⟩) 1 1, .slice (some ⟨w.heap.size + 10, 0, none⟩) 1 1] 31)
  rw [← hW11] at h0
  replace h1 := heap_al h1 (.cells #[.string ⟨#[98, 48, 49]⟩, .slice none 0 0, .slice (some ⟨w.heap.size, 0, none⟩) 2 2, .string ⟨#[98, 48, 50]⟩, .slice (some ⟨w.heap.size + 1, 0, none⟩) 1 1, .slice (some ⟨w.heap.size + 2, 0, none⟩) 1 1, .string ⟨#[98, 48, 51]⟩, .slice (some ⟨w.heap.size + 3, 0, none⟩) 1 1, .slice (some ⟨w.heap.size + 4, 0, none⟩) 1 1, .string ⟨#[98, 48, 52]⟩, .slice (some ⟨w.heap.size + 5, 0, none⟩) 2 2, .slice (some ⟨w.heap.size + 6, 0, none⟩) 1 1, .string ⟨#[98, 48, 53]⟩, .slice (some ⟨w.heap.size + 7, 0, none⟩) 1 1, .slice (some ⟨w.heap.size + 8, 0, none⟩) 1 1, .string ⟨#[98, 48, 54]⟩, .slice (some ⟨w.heap.size + 9, 0, none⟩) 1 1, .slice (some ⟨w.heap.size + 10, 0, none⟩) 1 1] 31)
  rw [← hW11] at h1
  replace h2 := heap_al h2 (.cells #[.string ⟨#[98, 48, 49]⟩, .slice none 0 0, .slice (some ⟨w.heap.size, 0, none⟩) 2 2, .string ⟨#[98, 48, 50]⟩, .slice (some ⟨w.heap.size + 1, 0, none⟩) 1 1, .slice (some ⟨w.heap.size + 2, 0, none⟩) 1 1, .string ⟨#[98, 48, 51]⟩, .slice (some ⟨w.heap.size + 3, 0, none⟩) 1 1, .slice (some ⟨w.heap.size + 4, 0, none⟩) 1 1, .string ⟨#[98, 48, 52]⟩, .slice (some ⟨w.heap.size + 5, 0, none⟩) 2 2, .slice (some ⟨w.heap.size + 6, 0, none⟩) 1 1, .string ⟨#[98, 48, 53]⟩, .slice (some ⟨w.heap.size + 7, 0, none⟩) 1 1, .slice (some ⟨w.heap.size + 8, 0, none⟩) 1 1, .string ⟨#[98, 48, 54]⟩, .slice (some ⟨w.heap.size + 9, 0, none⟩) 1 1, .slice (some ⟨w.heap.size + 10, 0, none⟩) 1 1] 31)
  rw [← hW11] at h2
  replace h3 := heap_al h3 (.cells #[.string ⟨#[98, 48, 49]⟩, .slice none 0 0, .slice (some ⟨w.heap.size, 0, none⟩) 2 2, .string ⟨#[98, 48, 50]⟩, .slice (some ⟨w.heap.size + 1, 0, none⟩) 1 1, .slice (some ⟨w.heap.size + 2, 0, none⟩) 1 1, .string ⟨#[98, 48, 51]⟩, .slice (some ⟨w.heap.size + 3, 0, none⟩) 1 1, .slice (some ⟨w.heap.size + 4, 0, none⟩) 1 1, .string ⟨#[98, 48, 52]⟩, .slice (some ⟨w.heap.size + 5, 0, none⟩) 2 2, .slice (some ⟨w.heap.size + 6, 0, none⟩) 1 1, .string ⟨#[98, 48, 53]⟩, .slice (some ⟨w.heap.size + 7, 0, none⟩) 1 1, .slice (some ⟨w.heap.size + 8, 0, none⟩) 1 1, .string ⟨#[98, 48, 54]⟩, .slice (some ⟨w.heap.size + 9, 0, none⟩) 1 1, .slice (some ⟨w.heap.size + 10, 0, none⟩) 1 1] 31)
  rw [← hW11] at h3
  replace h4 := heap_al h4 (.cells #[.string ⟨#[98, 48, 49]⟩, .slice none 0 0, .slice (some ⟨w.heap.size, 0, none⟩) 2 2, .string ⟨#[98, 48, 50]⟩, .slice (some ⟨w.heap.size + 1, 0, none⟩) 1 1, .slice (some ⟨w.heap.size + 2, 0, none⟩) 1 1, .string ⟨#[98, 48, 51]⟩, .slice (some ⟨w.heap.size + 3, 0, none⟩) 1 1, .slice (some ⟨w.heap.size + 4, 0, none⟩) 1 1, .string ⟨#[98, 48, 52]⟩, .slice (some ⟨w.heap.size + 5, 0, none⟩) 2 2, .slice (some ⟨w.heap.size + 6, 0, none⟩) 1 1, .string ⟨#[98, 48, 53]⟩, .slice (some ⟨w.heap.size + 7, 0, none⟩) 1 1, .slice (some ⟨w.heap.size + 8, 0, none⟩) 1 1, .string ⟨#[98, 48, 54]⟩, .slice (some ⟨w.heap.size + 9, 0, none⟩) 1 1, .slice (some ⟨w.heap.size + 10, 0, none⟩) 1 1] 31)
  rw [← hW11] at h4
  replace h5 := heap_al h5 (.cells #[.string ⟨#[98, 48, 49]⟩, .slice none 0 0, .slice (some ⟨w.heap.size, 0, none⟩) 2 2, .string ⟨#[98, 48, 50]⟩, .slice (some ⟨w.heap.size + 1, 0, none⟩) 1 1, .slice (some ⟨w.heap.size + 2, 0, none⟩) 1 1, .string ⟨#[98, 48, 51]⟩, .slice (some ⟨w.heap.size + 3, 0, none⟩) 1 1, .slice (some ⟨w.heap.size + 4, 0, none⟩) 1 1, .string ⟨#[98, 48, 52]⟩, .slice (some ⟨w.heap.size + 5, 0, none⟩) 2 2, .slice (some ⟨w.heap.size + 6, 0, none⟩) 1 1, .string ⟨#[98, 48, 53]⟩, .slice (some ⟨w.heap.size + 7, 0, none⟩) 1 1, .slice (some ⟨w.heap.size + 8, 0, none⟩) 1 1, .string ⟨#[98, 48, 54]⟩, .slice (some ⟨w.heap.size + 9, 0, none⟩) 1 1, .slice (some ⟨w.heap.size + 10, 0, none⟩) 1 1] 31)
  rw [← hW11] at h5
  replace h6 := heap_al h6 (.cells #[.string ⟨#[98, 48, 49]⟩, .slice none 0 0, .slice (some ⟨w.heap.size, 0, none⟩) 2 2, .string ⟨#[98, 48, 50]⟩, .slice (some ⟨w.heap.size + 1, 0, none⟩) 1 1, .slice (some ⟨w.heap.size + 2, 0, none⟩) 1 1, .string ⟨#[98, 48, 51]⟩, .slice (some ⟨w.heap.size + 3, 0, none⟩) 1 1, .slice (some ⟨w.heap.size + 4, 0, none⟩) 1 1, .string ⟨#[98, 48, 52]⟩, .slice (some ⟨w.heap.size + 5, 0, none⟩) 2 2, .slice (some ⟨w.heap.size + 6, 0, none⟩) 1 1, .string ⟨#[98, 48, 53]⟩, .slice (some ⟨w.heap.size + 7, 0, none⟩) 1 1, .slice (some ⟨w.heap.size + 8, 0, none⟩) 1 1, .string ⟨#[98, 48, 54]⟩, .slice (some ⟨w.heap.size + 9, 0, none⟩) 1 1, .slice (some ⟨w.heap.size + 10, 0, none⟩) 1 1] 31)
  rw [← hW11] at h6
  replace h7 := heap_al h7 (.cells #[.string ⟨#[98, 48, 49]⟩, .slice none 0 0, .slice (some ⟨w.heap.size, 0, none⟩) 2 2, .string ⟨#[98, 48, 50]⟩, .slice (some ⟨w.heap.size + 1, 0, none⟩) 1 1, .slice (some ⟨w.heap.size + 2, 0, none⟩) 1 1, .string ⟨#[98, 48, 51]⟩, .slice (some ⟨w.heap.size + 3, 0, none⟩) 1 1, .slice (some ⟨w.heap.size + 4, 0, none⟩) 1 1, .string ⟨#[98, 48, 52]⟩, .slice (some ⟨w.heap.size + 5, 0, none⟩) 2 2, .slice (some ⟨w.heap.size + 6, 0, none⟩) 1 1, .string ⟨#[98, 48, 53]⟩, .slice (some ⟨w.heap.size + 7, 0, none⟩) 1 1, .slice (some ⟨w.heap.size + 8, 0, none⟩) 1 1, .string ⟨#[98, 48, 54]⟩, .slice (some ⟨w.heap.size + 9, 0, none⟩) 1 1, .slice (some ⟨w.heap.size + 10, 0, none⟩) 1 1] 31)
  rw [← hW11] at h7
  replace h8 := heap_al h8 (.cells #[.string ⟨#[98, 48, 49]⟩, .slice none 0 0, .slice (some ⟨w.heap.size, 0, none⟩) 2 2, .string ⟨#[98, 48, 50]⟩, .slice (some ⟨w.heap.size + 1, 0, none⟩) 1 1, .slice (some ⟨w.heap.size + 2, 0, none⟩) 1 1, .string ⟨#[98, 48, 51]⟩, .slice (some ⟨w.heap.size + 3, 0, none⟩) 1 1, .slice (some ⟨w.heap.size + 4, 0, none⟩) 1 1, .string ⟨#[98, 48, 52]⟩, .slice (some ⟨w.heap.size + 5, 0, none⟩) 2 2, .slice (some ⟨w.heap.size + 6, 0, none⟩) 1 1, .string ⟨#[98, 48, 53]⟩, .slice (some ⟨w.heap.size + 7, 0, none⟩) 1 1, .slice (some ⟨w.heap.size + 8, 0, none⟩) 1 1, .string ⟨#[98, 48, 54]⟩, .slice (some ⟨w.heap.size + 9, 0, none⟩) 1 1, .slice (some ⟨w.heap.size + 10, 0, none⟩) 1 1] 31)
  rw [← hW11] at h8
  replace h9 := heap_al h9 (.cells #[.string ⟨#[98, 48, 49]⟩, .slice none 0 0, .slice (some ⟨w.heap.size, 0, none⟩) 2 2, .string ⟨#[98, 48, 50]⟩, .slice (some ⟨w.heap.size + 1, 0, none⟩) 1 1, .slice (some ⟨w.heap.size + 2, 0, none⟩) 1 1, .string ⟨#[98, 48, 51]⟩, .slice (some ⟨w.heap.size + 3, 0, none⟩) 1 1, .slice (some ⟨w.heap.size + 4, 0, none⟩) 1 1, .string ⟨#[98, 48, 52]⟩, .slice (some ⟨w.heap.size + 5, 0, none⟩) 2 2, .slice (some ⟨w.heap.size + 6, 0, none⟩) 1 1, .string ⟨#[98, 48, 53]⟩, .slice (some ⟨w.heap.size + 7, 0, none⟩) 1 1, .slice (some ⟨w.heap.size + 8, 0, none⟩) 1 1, .string ⟨#[98, 48, 54]⟩, .slice (some ⟨w.heap.size + 9, 0, none⟩) 1 1, .slice (some ⟨w.heap.size + 10, 0, none⟩) 1 1] 31)
  rw [← hW11] at h9
  replace h10 := heap_al h10 (.cells #[.string ⟨#[98, 48, 49]⟩, .slice none 0 0, .slice (some ⟨w.heap.size, 0, none⟩) 2 2, .string ⟨#[98, 48, 50]⟩, .slice (some ⟨w.heap.size + 1, 0, none⟩) 1 1, .slice (some ⟨w.heap.size + 2, 0, none⟩) 1 1, .string ⟨#[98, 48, 51]⟩, .slice (some ⟨w.heap.size + 3, 0, none⟩) 1 1, .slice (some ⟨w.heap.size + 4, 0, none⟩) 1 1, .string ⟨#[98, 48, 52]⟩, .slice (some ⟨w.heap.size + 5, 0, none⟩) 2 2, .slice (some ⟨w.heap.size + 6, 0, none⟩) 1 1, .string ⟨#[98, 48, 53]⟩, .slice (some ⟨w.heap.size + 7, 0, none⟩) 1 1, .slice (some ⟨w.heap.size + 8, 0, none⟩) 1 1, .string ⟨#[98, 48, 54]⟩, .slice (some ⟨w.heap.size + 9, 0, none⟩) 1 1, .slice (some ⟨w.heap.size + 10, 0, none⟩) 1 1] 31)
  rw [← hW11] at h10
  have h11 : W11.heap[w.heap.size + 11]? = some (.cells #[.string ⟨#[98, 48, 49]⟩, .slice none 0 0, .slice (some ⟨w.heap.size, 0, none⟩) 2 2, .string ⟨#[98, 48, 50]⟩, .slice (some ⟨w.heap.size + 1, 0, none⟩) 1 1, .slice (some ⟨w.heap.size + 2, 0, none⟩) 1 1, .string ⟨#[98, 48, 51]⟩, .slice (some ⟨w.heap.size + 3, 0, none⟩) 1 1, .slice (some ⟨w.heap.size + 4, 0, none⟩) 1 1, .string ⟨#[98, 48, 52]⟩, .slice (some ⟨w.heap.size + 5, 0, none⟩) 2 2, .slice (some ⟨w.heap.size + 6, 0, none⟩) 1 1, .string ⟨#[98, 48, 53]⟩, .slice (some ⟨w.heap.size + 7, 0, none⟩) 1 1, .slice (some ⟨w.heap.size + 8, 0, none⟩) 1 1, .string ⟨#[98, 48, 54]⟩, .slice (some ⟨w.heap.size + 9, 0, none⟩) 1 1, .slice (some ⟨w.heap.size + 10, 0, none⟩) 1 1] 31 (0, 0)) := by have h := heap_alloc_new W10 (.cells #[.string ⟨#[98, 48, 49]⟩, .slice none 0 0, .slice (some ⟨w.heap.size, 0, none⟩) 2 2, .string ⟨#[98, 48, 50]⟩, .slice (some ⟨w.heap.size + 1, 0, none⟩) 1 1, .slice (some ⟨w.heap.size + 2, 0, none⟩) 1 1, .string ⟨#[98, 48, 51]⟩, .slice (some ⟨w.heap.size + 3, 0, none⟩) 1 1, .slice (some ⟨w.heap.size + 4, 0, none⟩) 1 1, .string ⟨#[98, 48, 52]⟩, .slice (some ⟨w.heap.size + 5, 0, none⟩) 2 2, .slice (some ⟨w.heap.size + 6, 0, none⟩) 1 1, .string ⟨#[98, 48, 53]⟩, .slice (some ⟨w.heap.size + 7, 0, none⟩) 1 1, .slice (some ⟨w.heap.size + 8, 0, none⟩) 1 1, .string ⟨#[98, 48, 54]⟩, .slice (some ⟨w.heap.size + 9, 0, none⟩) 1 1, .slice (some ⟨w.heap.size + 10, 0, none⟩) 1 1] 31); rw [← hW11, z10] at h; exact h
  have HN : Hid (NewMv w.heap.size W11 (.slice (some ⟨w.heap.size + 11, 0, none⟩) 6 6) (baseR w) baseL) := Lib.hid (by
    refine ⟨new_lit mvC_len (by omega) h11 rfl, rfl, fun i r m h1 h2 => ?_⟩
    match i with
    | 0 => simp only [baseR, baseL, List.getElem?_cons_zero, Option.some.injEq] at h1 h2; subst h1; subst h2; exact ⟨rfl, .inl ⟨rfl, rfl⟩, new_lit spC_len (by omega) h0 rfl⟩
    | 1 => simp only [baseR, baseL, List.getElem?_cons_succ, List.getElem?_cons_zero, Option.some.injEq] at h1 h2; subst h1; subst h2; exact ⟨rfl, new_lit txC_len (by omega) h1 rfl, new_lit spC_len (by omega) h2 rfl⟩
    | 2 => simp only [baseR, baseL, List.getElem?_cons_succ, List.getElem?_cons_zero, Option.some.injEq] at h1 h2; subst h1; subst h2; exact ⟨rfl, new_lit txC_len (by omega) h3 rfl, new_lit spC_len (by omega) h4 rfl⟩
    | 3 => simp only [baseR, baseL, List.getElem?_cons_succ, List.getElem?_cons_zero, Option.some.injEq] at h1 h2; subst h1; subst h2; exact ⟨rfl, new_lit txC_len (by omega) h5 rfl, new_lit spC_len (by omega) h6 rfl⟩
    | 4 => simp only [baseR, baseL, List.getElem?_cons_succ, List.getElem?_cons_zero, Option.some.injEq] at h1 h2; subst h1; subst h2; exact ⟨rfl, new_lit txC_len (by omega) h7 rfl, new_lit spC_len (by omega) h8 rfl⟩
    | 5 => simp only [baseR, baseL, List.getElem?_cons_succ, List.getElem?_cons_zero, Option.some.injEq] at h1 h2; subst h1; subst h2; exact ⟨rfl, new_lit txC_len (by omega) h9 rfl, new_lit spC_len (by omega) h10 rfl⟩
    | i + 6 => simp [baseR] at h1)
  have HB := Lib.hid b11
  have HW0 := Lib.hid hW0
  have HW1 := Lib.hid hW1
  have HW2 := Lib.hid hW2
  have HW3 := Lib.hid hW3
  have HW4 := Lib.hid hW4
  have HW5 := Lib.hid hW5
  have HW6 := Lib.hid hW6
  have HW7 := Lib.hid hW7
  have HW8 := Lib.hid hW8
  have HW9 := Lib.hid hW9
  have HW10 := Lib.hid hW10
  have HW11 := Lib.hid hW11
  clear h0 b0 hW0 h1 b1 hW1 h2 b2 hW2 h3 b3 hW3 h4 b4 hW4 h5 b5 hW5 h6 b6 hW6 h7 b7 hW7 h8 b8 hW8 h9 b9 hW9 h10 b10 hW10 h11 b11 hW11
  go_enter Try.func17, Try.ntmps17
  go_wp2_with fail
  go_ret
  have E1 := HN.out
  have E2 := HB.out
  rw [HW11.out, HW10.out, HW9.out, HW8.out, HW7.out, HW6.out, HW5.out, HW4.out, HW3.out, HW2.out, HW1.out, HW0.out] at E1 E2
  exact ⟨⟨_, _, rfl, E1⟩, E2⟩
end Go.Proofs.Ythjcifokmcbaoaa.st
/- base.together of two lists of moves; base.Moves. No conditions. -/
namespace Go.Proofs.Ythjcifokmcbaoaa.st
open Go.ChangeShapes Go.WideShapes Go.ChangeAt Go.RowKit gl ls

theorem flat_back {α : Type} {enc : α → List Value} {k : Nat} (hk : ∀ x, (enc x).length = k) (hk0 : 0 < k) {l : List α} {q : Nat} {v : Value} (h : (rw.flat enc l)[q]? = some v) : ∃ y, l[q / k]? = some y ∧ (enc y)[q % k]? = some v := by
  have hq := (List.getElem?_eq_some_iff.1 h).1
  rw [rw.flat_len hk] at hq
  have h1 : q / k < l.length := (Nat.div_lt_iff_lt_mul hk0).2 hq
  have h2 : q % k < (enc l[q / k]).length := by rw [hk]; exact Nat.mod_lt _ hk0
  have h3 := rw.flat_at hk l (q / k) _ (q % k) _ (List.getElem?_eq_getElem h1) (List.getElem?_eq_getElem h2)
  rw [Nat.mul_comm, Nat.div_add_mod, h] at h3
  exact ⟨_, List.getElem?_eq_getElem h1, by rw [List.getElem?_eq_getElem h2]; exact h3.symm⟩
theorem rw_src {α : Type} {enc : α → List Value} {k : Nat} (hk : ∀ x, (enc x).length = k) (hk0 : 0 < k) {w : World} {p : Option Addr} {n c : Nat} {l : List α} (h : rw.Rw enc k w (.slice p n c) l) : SrcV w (.slice p n c) n (rw.flat enc l) := by
  obtain ⟨hl, _, hp⟩ := h.ptr
  by_cases h0 : n = 0
  · subst h0
    obtain rfl : l = [] := List.eq_nil_of_length_eq_zero hl
    exact .inl ⟨rfl, rfl, p, c, rfl⟩
  · obtain ⟨b, o, rfl, _⟩ := hp (by omega)
    refine .inr ⟨by omega, _, c, rfl, fun j u hj => ?_⟩
    obtain ⟨y, hy, hu⟩ := flat_back hk hk0 hj
    have := rw.Rw.cell h hy hu
    rw [Nat.mul_comm, Nat.div_add_mod] at this
    rw [ls.addN]
    exact this
theorem infoMv : (Try.prog.info? 31).map (fun i => (i.zero, i.size, i.bytes)) = some (some (.agg #[.string .empty, .slice none 0 0, .slice none 0 0]), 3, 64) := by kernel_rfl
set_option maxHeartbeats 4000000 in
set_option maxRecDepth 100000 in
theorem together_any (g : Nat) (p1 p2 : Option Addr) (n1 n2 c1 c2 : Nat) (R1 R2 : List MvR) (w : World) (h1 : w.cell? ⟨g, 0, none⟩ = some (.slice p1 n1 c1)) (h2 : w.cell? ⟨g, 1, none⟩ = some (.slice p2 n2 c2)) (hR1 : rw.Rw mvC 3 w (.slice p1 n1 c1) R1) (hR2 : rw.Rw mvC 3 w (.slice p2 n2 c2) R2) (hn1 : n1 ≤ 100000) (hn2 : n2 ≤ 100000) :
    Calls Try.prog 31 #[.slice (some ⟨g, 0, none⟩) 2 2] w fun e w' => (∃ v, e = .returned v ∧ rw.NewRw mvC 3 31 w.heap.size w' v (R1 ++ R2)) ∧ Below w.heap.size w w' := by
  obtain ⟨i0, si, sz0, sz1, sz2⟩ := info_parts infoMv
  have H1 := Lib.hid h1
  have H2 := Lib.hid h2
  have HR1 := Lib.hid hR1
  have HR2 := Lib.hid hR2
  have hl1 : R1.length = n1 := hR1.ptr.1
  have hl2 : R2.length = n2 := hR2.ptr.1
  have Hl1 := Lib.hid hl1
  have Hl2 := Lib.hid hl2
  have hg : g < w.heap.size := World.block_lt_of_cell? _ _ h1
  clear hR1 hR2 hl1 hl2 h1 h2
  go_enter Try.func31, Try.ntmps31
  go_wp2_with fail
  go_loopw [3, 8] (fun o i wr => ∃ (j n : Nat) (R : List MvR), j ≤ 2 ∧ i = .int .i64 j ∧ n ≤ j * 100000 ∧ Hid (R = (if j = 0 then [] else if j = 1 then R1 else R1 ++ R2)) ∧ Hid (wr.ownsRow w.heap.size 31 3 o n (rw.flat mvC R)) ∧ Hid (Below w.heap.size w wr)) (fun _ i _ => 2 - (intOf i).toNat)
  case atStart => exact ⟨0, 0, [], by omega, rfl, by omega, Lib.hid rfl, Lib.hid ⟨rfl, .inl ⟨rfl, rfl⟩⟩, Lib.hid (Below.refl _ _)⟩
  case round =>
    obtain ⟨j, n, R, hj, rfl, hn, HR, Ho, Hb⟩ := hrel
    have hgr : g < wr.heap.size := by have := Hb.out.size; omega
    have hzr := Hb.out.size
    by_cases hlt : j < 2
    · obtain ⟨p, m, c, Rn, hc, hsrc, hm, hml, hnx⟩ : ∃ (p : Option Addr) (m c : Nat) (Rn : List MvR), wr.cell? ⟨g, j, none⟩ = some (.slice p m c) ∧ SrcV wr (.slice p m c) m (rw.flat mvC Rn) ∧ m ≤ 100000 ∧ Rn.length = m ∧ R ++ Rn = (if j + 1 = 0 then [] else if j + 1 = 1 then R1 else R1 ++ R2) := by
        rcases (show j = 0 ∨ j = 1 by omega) with rfl | rfl
        · exact ⟨p1, n1, c1, R1, cell_then H1.out Hb.out, rw_src mvC_len (by decide) (HR1.out.later Hb.out), hn1, Hl1.out, by rw [HR.out]; rfl⟩
        · exact ⟨p2, n2, c2, R2, cell_then H2.out Hb.out, rw_src mvC_len (by decide) (HR2.out.later Hb.out), hn2, Hl2.out, by rw [HR.out]; rfl⟩
      have Hsrc := Lib.hid hsrc
      have Hnx := Lib.hid hnx
      have Hml := Lib.hid hml
      have hji : (j : Int) < 2 := by omega
      have hj5 : (0 : Int) ≤ (j : Int) := by omega
      clear hsrc hnx hml
      focus
        go_wp2_with (at_builtin; go_must (refine wpList_append_any rfl _ _ 22 rfl 31 i0 _ 3 64 Try.underlying22 si sz0 sz1 sz2 rfl (by decide) w.heap.size _ n _ (by rfl) Ho.out _ m _ (by rfl) Hsrc.out (by rw [rw.flat_len mvC_len, Hml.out]) (rw.flat_one mvC_one _) (by omega) (by omega) (by omega) ?_))
      intro p' cap w5 hown hgrow
      have Hown := Lib.hid hown
      have HB5 := Lib.hid (below_grown_own Hb.out Ho.out hgrow hzr)
      clear hown hgrow
      go_wp2_with fail
      go_roundw
      case rel => exact ⟨j + 1, n + m, R ++ Rn, by omega, by go_num, by omega, Hnx, Lib.hid (by rw [rw.flat_append]; exact Hown.out), HB5⟩
      case measure => simp [intOf]; omega
    · obtain rfl : j = 2 := by omega
      go_wp2_with fail
      go_ret
      refine ⟨⟨_, rfl, ?_⟩, Hb.out⟩
      have := rw.own_new mvC_len (by decide) Ho.out
      rw [HR.out] at this
      exact this
end Go.Proofs.Ythjcifokmcbaoaa.st
/- base.Moves: the six moves, in blocks of the call's own. No conditions. -/
namespace Go.Proofs.Ythjcifokmcbaoaa.st
open Go.ChangeShapes Go.WideShapes Go.ChangeAt Go.RowKit gl ls

theorem base_parts : firstL ++ secondL = baseL := rfl
theorem NewMv.join {M : Nat} {w : World} {v v1 v2 : Value} {R1 R2 : List MvR} {l1 l2 : List Mv} (h : rw.NewRw mvC 3 31 M w v (R1 ++ R2)) (h1 : NewMv M w v1 R1 l1) (h2 : NewMv M w v2 R2 l2) : NewMv M w v (R1 ++ R2) (l1 ++ l2) := by
  refine ⟨h, by rw [List.length_append, List.length_append, h1.2.1, h2.2.1], fun i r m hr hm => ?_⟩
  by_cases hi : i < R1.length
  · rw [List.getElem?_append_left hi] at hr
    rw [List.getElem?_append_left (by rw [← h1.2.1]; exact hi)] at hm
    exact h1.2.2 i r m hr hm
  · rw [List.getElem?_append_right (by omega)] at hr
    rw [List.getElem?_append_right (by rw [← h1.2.1]; omega), ← h1.2.1] at hm
    exact h2.2.2 _ r m hr hm
set_option maxHeartbeats 4000000 in
set_option maxRecDepth 100000 in
theorem moves_any (w : World) : Calls Try.prog 24 #[] w fun e w' => (∃ v R, e = .returned v ∧ NewMv w.heap.size w' v R baseL) ∧ Below w.heap.size w w' := by
  go_enter Try.func24, Try.ntmps24
  go_wp2_with fail
  refine (first_any w).mono ?_
  rintro e w1 ⟨⟨v1, R1, rfl, h1⟩, hb1⟩
  have H1 := Lib.hid h1
  have HB1 := Lib.hid hb1
  clear h1 hb1
  go_wp2_with fail
  refine (second_any w1).mono ?_
  rintro e w2 ⟨⟨v2, R2, rfl, h2⟩, hb2⟩
  obtain ⟨p1, c1, rfl⟩ := rw.NewRw.form H1.out.1
  obtain ⟨p2, c2, rfl⟩ := rw.NewRw.form h2.1
  have hl1 : R1.length = 3 := H1.out.2.1
  have hl2 : R2.length = 3 := h2.2.1
  rw [hl1] at H1 ⊢
  rw [hl2] at h2 ⊢
  have HB2 := Lib.hid (then_bel HB1.out hb2)
  have H12 := Lib.hid (H1.out.later hb2)
  have H22 := Lib.hid (h2.mono (HB1.out.size))
  clear h2 hb2
  obtain ⟨w3, hw3⟩ : ∃ w3, w3 = w2.alloc (.cells #[.slice p1 3 c1, .slice p2 3 c2] 22) := ⟨_, rfl⟩
  have hb3 : Below w2.heap.size w2 w3 := by rw [hw3]; exact (Below.refl _ _).alloc (Nat.le_refl _) _
  have hblk : w3.heap[w2.heap.size]? = some (.cells #[.slice p1 3 c1, .slice p2 3 c2] 22 (0, 0)) := by rw [hw3]; exact heap_alloc_new w2 _
  have k1 : w3.cell? ⟨w2.heap.size, 0, none⟩ = some (.slice p1 3 c1) := cell_in hblk
  have k2 : w3.cell? ⟨w2.heap.size, 1, none⟩ = some (.slice p2 3 c2) := cell_in hblk
  have H13 := Lib.hid (H12.out.later hb3)
  have H23 := Lib.hid (H22.out.later hb3)
  have HB3 := Lib.hid (then_bel HB2.out hb3)
  have HT := Lib.hid (together_any w2.heap.size p1 p2 3 3 c1 c2 R1 R2 w3 k1 k2 (H13.out.1.rw mvC_len) (H23.out.1.rw mvC_len) (by omega) (by omega))
  clear k1 k2 hblk hb3
  go_wp2_with fail
  rw [← hw3]
  refine HT.out.mono ?_
  rintro e w4 ⟨⟨v4, rfl, h4⟩, hb4⟩
  have HN := Lib.hid (NewMv.join (h4.mono HB3.out.size) (H13.out.later hb4) (H23.out.later hb4))
  have HB4 := Lib.hid (then_bel HB3.out hb4)
  clear h4 hb4
  go_wp2_with fail
  go_ret
  exact ⟨⟨_, _, rfl, HN.out⟩, HB4.out⟩
end Go.Proofs.Ythjcifokmcbaoaa.st
/- law 18: texts, pick, same, moves; the tables that are told. Conditions: lists of at most 4294967295 elements. -/
namespace Go.Proofs.Ythjcifokmcbaoaa.st
open Go.ChangeShapes Go.WideShapes Go.ChangeAt Go.RowKit gl ls

def tabL : List (List UInt8) := [[101, 118, 101, 110, 116, 115], [109, 101, 116, 97], [117, 115, 101, 114, 115]]
theorem spFields : (Try.prog.fieldsOf 35).toList.map (fun f => (decide (f.name ≠ "_"), f.type, f.offset)) = [(true, 3, 0), (true, 9, 1), (true, 9, 2), (true, 9, 3), (true, 9, 4)] := by kernel_rfl
theorem five_fields {l : List Field} {t0 t1 t2 t3 t4 : TypeId} (h : l.map (fun f => (decide (f.name ≠ "_"), f.type, f.offset)) = [(true, t0, 0), (true, t1, 1), (true, t2, 2), (true, t3, 3), (true, t4, 4)]) :
    ∃ f0 f1 f2 f3 f4 : Field, l = [f0, f1, f2, f3, f4] ∧ (f0.name ≠ "_" ∧ f0.type = t0 ∧ f0.offset = 0) ∧ (f1.name ≠ "_" ∧ f1.type = t1 ∧ f1.offset = 1) ∧ (f2.name ≠ "_" ∧ f2.type = t2 ∧ f2.offset = 2) ∧ (f3.name ≠ "_" ∧ f3.type = t3 ∧ f3.offset = 3) ∧ (f4.name ≠ "_" ∧ f4.type = t4 ∧ f4.offset = 4) := by
  obtain ⟨f0, r0, rfl, h0, h⟩ := List.map_eq_cons_iff.1 h
  obtain ⟨f1, r1, rfl, h1, h⟩ := List.map_eq_cons_iff.1 h
  obtain ⟨f2, r2, rfl, h2, h⟩ := List.map_eq_cons_iff.1 h
  obtain ⟨f3, r3, rfl, h3, h⟩ := List.map_eq_cons_iff.1 h
  obtain ⟨f4, r4, rfl, h4, h⟩ := List.map_eq_cons_iff.1 h
  obtain rfl := List.map_eq_nil_iff.1 h
  simp only [Prod.mk.injEq, decide_eq_true_eq] at h0 h1 h2 h3 h4
  exact ⟨f0, f1, f2, f3, f4, rfl, h0, h1, h2, h3, h4⟩
set_option maxRecDepth 100000 in
theorem neq_sp_same (k : Int) (a b c d : ByteArray) (w : World) :
    (binOp .neq 35 (.agg #[.int .i64 k, .string a, .string b, .string c, .string d]) (.agg #[.int .i64 k, .string a, .string b, .string c, .string d])).run Try.prog w = .ok (.bool false) w := by
  have hs : Try.prog.underlying 9 = some .string := Try.underlying9
  have hi : Try.prog.underlying 3 = some (.int .i64) := Try.underlying3
  have hc : Try.prog.cellsOf 9 = 1 := by kernel_rfl
  have hci : Try.prog.cellsOf 3 = 1 := by kernel_rfl
  obtain ⟨f0, f1, f2, f3, f4, hf, ⟨n0, t0, o0⟩, ⟨n1, t1, o1⟩, ⟨n2, t2, o2⟩, ⟨n3, t3, o3⟩, ⟨n4, t4, o4⟩⟩ := five_fields spFields
  rw [run_neq_struct, run_equalIn_struct w 9999 35 _ _ Try.underlying35 (by kernel_rfl), hf]
  simp only [Op.eqFields, n0, n1, n2, n3, n4, t0, t1, t2, t3, t4, o0, o1, o2, o3, o4, ne_eq, not_false_eq_true, if_true]
  simp [go_sem, part, hs, hi]
end Go.Proofs.Ythjcifokmcbaoaa.st
/- law 18: same, moves: of moves that are alike. Conditions: lists of at most 4294967295 elements. -/
namespace Go.Proofs.Ythjcifokmcbaoaa.st
open Go.ChangeShapes Go.WideShapes Go.ChangeAt Go.RowKit gl ls

theorem mv_cells {w : World} {b o n c : Nat} {R : List MvR} (h : rw.Rw mvC 3 w (.slice (some ⟨b, o, none⟩) n c) R) {j : Nat} {x : MvR} (hx : R[j]? = some x) :
    w.cell? ⟨b, o + j * 3, none⟩ = some (.string (B x.id)) ∧ w.cell? ⟨b, o + j * 3 + 1, none⟩ = some x.vn ∧ w.cell? ⟨b, o + j * 3 + 2, none⟩ = some x.vs :=
  ⟨rw.Rw.cell h hx (i := 0) rfl, rw.Rw.cell h hx (i := 1) rfl, rw.Rw.cell h hx (i := 2) rfl⟩
/-- Short lists within. -/
def Low (l : List Mv) : Prop := ∀ x ∈ l, x.needs.length ≤ 4294967295 ∧ x.steps.length ≤ 4294967295
end Go.Proofs.Ythjcifokmcbaoaa.st
/-
  DERIVED: THE SHELF's CONTRACTS AT THIS DUMP, IN PLAIN WORDS (tools/lay-plain.mjs out of 'YthjcifokmcbaoaaShelf2.lean', which tools/lay-shelf.mjs wrote): THE SAME DECLARATIONS UNDER THE SAME NAMES: 'import', 'namespace', 'open', 'def', 'theorem' AND NOTHING ELSE: no command of the shelf's: FOR A HAND-IN. Each laying: the table of numbers ('.._ren') and one theorem, a field a fact of the dump's own or the kernel's comparison; each contract: ONE APPLICATION.
-/
namespace Go.Proofs
open Go.Shelf
def Try.cloneTx_ren : Go.Shelf.Ren := ⟨fun | 41 => 12 | n => n, fun | 22 => 26 | 23 => 9 | 4 => 4 | n => n, fun | n => n⟩
theorem Try.cloneTx : Go.Proofs.SlLaysE0.n41 Try.prog Try.cloneTx_ren := {
  mixed := by kernel_rfl
  f41 := ⟨Try.f12.name, by decide, Try.func12.trans (congrArg some (by kernel_rfl))⟩
  t4 := Try.underlying4
  a4 := Try.isAgg4
  z4 := Try.sizeOf4
  v4 := Try.zeroValue4
  t22 := Try.underlying26
  a22 := Try.isAgg26
  z22 := Try.sizeOf26
  v22 := Try.zeroValue26 }
def Try.cloneSp_ren : Go.Shelf.Ren := ⟨fun | 41 => 14 | n => n, fun | 22 => 29 | 23 => 35 | 4 => 4 | n => n, fun | n => n⟩
theorem Try.cloneSp : Go.Proofs.SlLaysE0.n41 Try.prog Try.cloneSp_ren := {
  mixed := by kernel_rfl
  f41 := ⟨Try.f14.name, by decide, Try.func14.trans (congrArg some (by kernel_rfl))⟩
  t4 := Try.underlying4
  a4 := Try.isAgg4
  z4 := Try.sizeOf4
  v4 := Try.zeroValue4
  t22 := Try.underlying29
  a22 := Try.isAgg29
  z22 := Try.sizeOf29
  v22 := Try.zeroValue29 }
def Try.idxSp_ren : Go.Shelf.Ren := ⟨fun | 6 => 34 | n => n, fun | 22 => 29 | 23 => 35 | 25 => 48 | 3 => 3 | 0 => 0 | 4 => 4 | n => n, fun | n => n⟩
theorem Try.idxSp : Go.Proofs.SlLaysH0.n6 Try.prog Try.idxSp_ren := {
  mixed := by kernel_rfl
  f6 := ⟨Try.f34.name, by decide, Try.func34.trans (congrArg some (by kernel_rfl))⟩
  t0 := Try.underlying0
  a0 := Try.isAgg0
  z0 := Try.sizeOf0
  v0 := Try.zeroValue0
  t3 := Try.underlying3
  a3 := Try.isAgg3
  z3 := Try.sizeOf3
  v3 := Try.zeroValue3
  t4 := Try.underlying4
  a4 := Try.isAgg4
  z4 := Try.sizeOf4
  v4 := Try.zeroValue4
  t22 := Try.underlying29
  a22 := Try.isAgg29
  z22 := Try.sizeOf29
  v22 := Try.zeroValue29
  t25 := Try.underlying48
  a25 := Try.isAgg48
  z25 := Try.sizeOf48
  v25 := Try.zeroValue48 }
def Try.hasSp_ren : Go.Shelf.Ren := ⟨fun | 8 => 27 | 6 => 34 | n => n, fun | 22 => 29 | 23 => 35 | 25 => 48 | 4 => 4 | 3 => 3 | 0 => 0 | n => n, fun | n => n⟩
theorem Try.hasSp : Go.Proofs.SlLaysH0.n8 Try.prog Try.hasSp_ren := {
  mixed := by kernel_rfl
  f6 := ⟨Try.f34.name, by decide, Try.func34.trans (congrArg some (by kernel_rfl))⟩
  f8 := ⟨Try.f27.name, by decide, Try.func27.trans (congrArg some (by kernel_rfl))⟩
  t0 := Try.underlying0
  a0 := Try.isAgg0
  z0 := Try.sizeOf0
  v0 := Try.zeroValue0
  t3 := Try.underlying3
  a3 := Try.isAgg3
  z3 := Try.sizeOf3
  v3 := Try.zeroValue3
  t4 := Try.underlying4
  a4 := Try.isAgg4
  z4 := Try.sizeOf4
  v4 := Try.zeroValue4
  t22 := Try.underlying29
  a22 := Try.isAgg29
  z22 := Try.sizeOf29
  v22 := Try.zeroValue29
  t25 := Try.underlying48
  a25 := Try.isAgg48
  z25 := Try.sizeOf48
  v25 := Try.zeroValue48 }
end Go.Proofs
/- Laws for any program: a call of a Go function, whatever it gives, as one step of a region that draws its order; slices.Clone of any list. No program in sight; no conditions beside those stated. -/
namespace Go.Proofs.Ythjcifokmcbaoaa
open Go.RowKit
section
variable {P : Program}
/-- A call, as a step. -/
theorem step_callE {ops : Array Oper} {o : Oper} {a : Act} {w : World} {K : Act → World → Prop} {Q : Exit → Act → World → Prop} {E : Prop} (hgd : o.guard = none) (f : FuncId) (xs : Array Operand) (ts : Array TypeId)
    (ho : o.op = .call { callee := .value (.func f), args := xs, argTypes := ts }) (eg : ∀ args w, (callFunc f args).run P w = .ok (.enter f args) w) (args : Array Value) (hargs' : xs.toList.map a.eval = args.toList) (R : Value → World → Prop)
    (hc : Calls P f args w fun e w' => ∃ v, e = .returned v ∧ R v w') (hK : ∀ v w', R v w' → K (a.put o.dst v) w') :
    if Region.wanted o (yielded ops a.tmps) = true then Oper.wp P o a w K Q else E := by
  have hargs : xs.map a.eval = args := by
    apply Array.ext'
    rw [Array.toList_map]
    exact hargs'
  have hw : Region.wanted o (yielded ops a.tmps) = true := by simp [Region.wanted, hgd]
  rw [if_pos hw]
  have hrun : (execOp a.eval o).run P w = .ok (.enter f args) w := by
    simp only [execOp, ho]
    have h1 : a.eval (.func f) = .func (.func f) #[] #[] := rfl
    simp only [resolve, h1, hargs]
    have := eg args w
    simpa [invoke, go_sem] using this
  unfold Oper.wp
  rw [hrun, Oper.upon_enter]
  refine hc.mono fun e w' h => ?_
  obtain ⟨v, rfl, h⟩ := h
  exact hK v w' h
open Go.Shelf ls in
set_option maxRecDepth 100000 in
theorem clone_list {ρ : Ren} (L : SlLaysE0.n41 P ρ) {α : Type} {enc : α → List Value} {k : Nat} (hk : ∀ x, (enc x).length = k) (h1 : ∀ x, ∀ v ∈ enc x, v.oneCell' = true) (hk0 : 0 < k) {z : Value} {bytes : Nat}
    (hi : (P.info? (ρ.t 23)).map (fun i => (i.zero, i.size, i.bytes)) = some (some z, k, bytes)) (hzs : z.cells.size = k) (hby : bytes ≤ 1024) (z23 : ∀ w, (Go.sizeOf (ρ.t 23)).run P w = .ok k w)
    (p : Option Addr) (m c : Nat) (l : List α) (hm : m ≤ 4294967295) (w : World) (h : rw.Rw enc k w (.slice p m c) l) :
    Calls P (ρ.f 41) #[.slice p m c] w fun e w' => ∃ v, e = .returned v ∧ w'.ownsRow w.heap.size (ρ.t 23) k v m (rw.flat enc l) ∧ Below w.heap.size w w' := by
  obtain ⟨hlen, hmc, hptr⟩ := h.ptr
  obtain ⟨i0, hi0, hi1⟩ := Option.map_eq_some_iff.1 hi
  simp only [Prod.mk.injEq] at hi1
  obtain ⟨hz, hs, hb⟩ := hi1
  rcases Nat.eq_zero_or_pos m with h0 | h0
  · subst h0
    obtain rfl : l = [] := List.length_eq_zero_iff.1 hlen
    cases p with
    | none =>
      refine (AnyE.slices_Clone_nil L 0 c w).mono ?_
      rintro e w' ⟨rfl, rfl⟩
      exact ⟨_, rfl, ⟨by simp [rw.flat], .inl ⟨rfl, rfl⟩⟩, Below.refl _ _⟩
    | some a =>
      have mixed := L.mixed; have t4 := L.t4; have a4 := L.a4; have z4 := L.z4; have v4 := L.v4; have t22 := L.t22; have a22 := L.a22; have z22 := L.z22; have v22 := L.v22
      have q22 : ∀ (w : World) (a : Option Addr) (n c n' c' : Nat), (binOp .eql (ρ.t 22) (.slice a n c) (.slice none n' c')).run P w = .ok (.bool a.isNone) w := fun w a n c n' c' => Lib.run_eql_slice_nil w _ _ a n c n' c' L.t22
      have u22 : ∀ w, Sem.run P (underlying (ρ.t 22)) w = .ok (TypeDesc.slice (ρ.t 23)) w := run_underlying t22
      have qs : (some a).isNone = false := rfl
      obtain ⟨_, _, FG⟩ := L.f41
      go_enter FG, SlBodyN.n41_ntmps ρ
      go_wp2_with fail
      go_ret
      exact ⟨_, rfl, World.ownsRow_made w #[] 0 (Nat.le_refl _) (Nat.zero_le _) (by simp), (Below.refl _ _).alloc (Nat.le_refl _) _⟩
  · obtain ⟨b, o, rfl, hbl⟩ := hptr h0
    have hmul : m * bytes ≤ 140737488355328 := Nat.le_trans (Nat.mul_le_mul hm hby) (by decide)
    refine (AnyE.slices_Clone L i0 _ k bytes hi0 hz hs hb hzs hk0 z23 b o m c (rw.flat enc l) w (by rw [rw.flat_len hk, hlen]) (by unfold maxLen; omega) hmul (fun j u hu => ?_) (fun u hu => rw.flat_one h1 l u hu)).mono ?_
    · have hj : j < l.length * k := by have := (List.getElem?_eq_some_iff.1 hu).1; rwa [rw.flat_len hk] at this
      have hq : j / k < l.length := (Nat.div_lt_iff_lt_mul hk0).2 hj
      have hr : j % k < (enc l[j / k]).length := by rw [hk]; exact Nat.mod_lt _ hk0
      have h2 := rw.flat_at hk l (j / k) _ (j % k) _ (List.getElem?_eq_getElem hq) (List.getElem?_eq_getElem hr)
      have he : j / k * k + j % k = j := by rw [Nat.mul_comm]; exact Nat.div_add_mod j k
      rw [he] at h2
      have h3 := h.cell (List.getElem?_eq_getElem hq) (List.getElem?_eq_getElem hr)
      rw [he] at h3
      rw [h3, ← h2]
      exact hu
    · rintro e w' ⟨v, rfl, hv, _, hb'⟩
      exact ⟨v, rfl, hv, hb'⟩
end
end Go.Proofs.Ythjcifokmcbaoaa
/- Laws on memory for any program: an append to a slice that lies at the head of a block, with room behind it or none. No program in sight; no conditions beside those stated. -/
namespace Go.Proofs.Ythjcifokmcbaoaa
open Go.RowKit ls
/-- A slice at the head of a block from M on: n elements of k cells, these cells. -/
def Blk (T : TypeId) (k M : Nat) (w : World) (v : Value) (n : Nat) (xs : List Value) : Prop :=
  xs.length = n * k ∧ ((v = .slice none 0 0 ∧ n = 0) ∨ ∃ g c cs, v = .slice (some ⟨g, 0, none⟩) n c ∧ n ≤ c ∧ M ≤ g ∧ w.heap[g]? = some (.cells cs T (0, 0)) ∧ c * k ≤ cs.size ∧ cs.toList.take (n * k) = xs)
/-- Each block of cells is one still, of as many cells. -/
def Sh (w w' : World) : Prop := ∀ (g : Nat) (cs : Array Value) (T : TypeId), w.heap[g]? = some (.cells cs T (0, 0)) → ∃ cs', w'.heap[g]? = some (.cells cs' T (0, 0)) ∧ cs'.size = cs.size
theorem Sh.refl (w : World) : Sh w w := fun _ cs _ h => ⟨cs, h, rfl⟩
theorem Sh.trans {a b c : World} (h : Sh a b) (h2 : Sh b c) : Sh a c := fun g cs T hg => by
  obtain ⟨c1, e1, e2⟩ := h g cs T hg
  obtain ⟨c2, e3, e4⟩ := h2 g c1 T e1
  exact ⟨c2, e3, e4.trans e2⟩
theorem Sh.of_below {w w' : World} (h : Below w.heap.size w w') : Sh w w' := fun g cs _ hg => ⟨cs, (h.block g (lt_of_block hg)).trans hg, rfl⟩
theorem Sh.alloc (w : World) (o : Obj) : Sh w (w.alloc o) := Sh.of_below ((Below.refl _ _).alloc (Nat.le_refl _) o)
theorem Sh.setCells {w : World} {b : Nat} {cs : Array Value} {T : TypeId} (hb : w.heap[b]? = some (.cells cs T (0, 0))) (o : Nat) (vs : List Value) : Sh w (w.setCells b o vs) := fun g c U hg => by
  by_cases h : g = b
  · subst h
    rw [hg] at hb
    cases hb
    exact ⟨_, heap_setCells vs w _ o hg, setR_size _ _ _⟩
  · exact ⟨c, (heap_setCells_ne h vs w o).trans hg, rfl⟩
theorem Sh.setCell {w : World} {b : Nat} {cs : Array Value} {T : TypeId} (hb : w.heap[b]? = some (.cells cs T (0, 0))) (o : Nat) (u : Value) : Sh w (w.setCell ⟨b, o, none⟩ u) := Sh.setCells hb o [u]
theorem Sh.of_none {w w' : World} (h : w.grownBy w' none) : Sh w w' := fun g cs _ hg => ⟨cs, (h.block g (lt_of_block hg) (by simp)).trans hg, rfl⟩
theorem Blk.of_own {T : TypeId} {k M : Nat} {w : World} {v : Value} {n : Nat} {xs : List Value} (h : w.ownsRow M T k v n xs) : Blk T k M w v n xs := by
  refine ⟨h.1, ?_⟩
  rcases h.2 with h | ⟨g, c, cs, e, h1, h2, h3, _, h5, h6⟩
  · exact .inl h
  · exact .inr ⟨g, c, cs, e, h3, h1, h2, by omega, h6⟩
theorem Blk.mono {T : TypeId} {k M M' : Nat} {w : World} {v : Value} {n : Nat} {xs : List Value} (h : Blk T k M w v n xs) (hM : M' ≤ M) : Blk T k M' w v n xs := by
  refine ⟨h.1, ?_⟩
  rcases h.2 with h | ⟨g, c, cs, e, h3, h1, h2⟩
  · exact .inl h
  · exact .inr ⟨g, c, cs, e, h3, by omega, h2⟩
theorem Blk.later {T : TypeId} {k M : Nat} {w w' : World} {v : Value} {n : Nat} {xs : List Value} (h : Blk T k M w v n xs) (hb : Below w.heap.size w w') : Blk T k M w' v n xs := by
  refine ⟨h.1, ?_⟩
  rcases h.2 with h | ⟨g, c, cs, e, h3, h1, h2, h4⟩
  · exact .inl h
  · exact .inr ⟨g, c, cs, e, h3, h1, (hb.block g (lt_of_block h2)).trans h2, h4⟩
/-- Whatever it holds. -/
theorem Blk.sh {T : TypeId} {k M : Nat} {w w' : World} {v : Value} {n : Nat} {xs : List Value} (h : Blk T k M w v n xs) (hs : Sh w w') : ∃ ys, Blk T k M w' v n ys := by
  obtain ⟨h0, h | ⟨g, c, cs, e, h3, h1, h2, h4, h5⟩⟩ := h
  · exact ⟨xs, h0, .inl h⟩
  · obtain ⟨cs', e1, e2⟩ := hs g cs T h2
    refine ⟨cs'.toList.take (n * k), ?_, .inr ⟨g, c, cs', e, h3, h1, e1, by omega, rfl⟩⟩
    rw [List.length_take, Array.length_toList, e2]
    have := Nat.mul_le_mul_right k h3
    omega
theorem Blk.form {T : TypeId} {k M : Nat} {w : World} {v : Value} {n : Nat} {xs : List Value} (h : Blk T k M w v n xs) : ∃ p c, v = .slice p n c := by
  rcases h.2 with ⟨rfl, rfl⟩ | ⟨g, c, cs, rfl, _⟩
  · exact ⟨_, _, rfl⟩
  · exact ⟨_, _, rfl⟩
theorem Blk.cell {T : TypeId} {k M : Nat} {w : World} {g c n : Nat} {xs : List Value} (h : Blk T k M w (.slice (some ⟨g, 0, none⟩) n c) n xs) {o : Nat} {u : Value} (hu : xs[o]? = some u) : w.cell? ⟨g, o, none⟩ = some u := by
  obtain ⟨_, ⟨h, _⟩ | ⟨g', c', cs, e, _, _, hb, _, ht⟩⟩ := h
  · cases h
  · cases e
    rw [cell_in hb, ← Array.getElem?_toList]
    rw [← ht, List.getElem?_take] at hu
    split at hu
    · exact hu
    · cases hu
theorem Blk.at_ {T : TypeId} {k M : Nat} {w : World} {p : Option Addr} {c n : Nat} {xs : List Value} (h : Blk T k M w (.slice p n c) n xs) (hn : 0 < n) : ∃ g cs, p = some ⟨g, 0, none⟩ ∧ M ≤ g ∧ n ≤ c ∧ w.heap[g]? = some (.cells cs T (0, 0)) ∧ c * k ≤ cs.size ∧ cs.toList.take (n * k) = xs := by
  obtain ⟨_, ⟨_, h⟩ | ⟨g, c', cs, e, h1, h2, hb, h3, ht⟩⟩ := h
  · omega
  · cases e
    exact ⟨g, cs, rfl, h2, h1, hb, h3, ht⟩
theorem take_setR {cs : Array Value} {n : Nat} {vs : List Value} (h : n + vs.length ≤ cs.size) : (setR cs n vs).toList.take (n + vs.length) = cs.toList.take n ++ vs := by
  have hc : cs.toList.length = cs.size := by simp
  have hc2 : (cs.toList.take n).length = n := by rw [List.length_take, hc]; omega
  refine List.ext_getElem? fun i => ?_
  by_cases h1 : i < n
  · rw [List.getElem?_take_of_lt (by omega), List.getElem?_append_left (by rw [hc2]; exact h1), List.getElem?_take_of_lt h1, Array.getElem?_toList, Array.getElem?_toList, setR_out vs cs n i (by omega)]
  · rw [List.getElem?_append_right (by omega), hc2]
    by_cases h2 : i < n + vs.length
    · rw [List.getElem?_take_of_lt h2, Array.getElem?_toList]
      have hv : vs[i - n]? = some (vs[i - n]'(by omega)) := List.getElem?_eq_getElem (by omega)
      have := setR_in vs cs n (by omega) (i - n) _ hv
      rw [show n + (i - n) = i by omega] at this
      rw [this, hv]
    · rw [List.getElem?_eq_none (by rw [List.length_take]; omega), List.getElem?_eq_none (by omega)]
section
variable {P : Program}
theorem run_append_blk (w : World) (t ty : TypeId) (M : Nat) (e : TypeId) (i : TypeInfo) (z : Value) (size bytes : Nat) (ht : P.underlying t = some (.slice e)) (hi : P.info? e = some i) (hz : i.zero = some z)
    (hsize : i.size = size) (hby : i.bytes = bytes) (hzs : z.cells.size = size) (hsz : 0 < size)
    (v : Value) (n : Nat) (xs : List Value) (hB : Blk e size M w v n xs) (y : Value) (m : Nat) (news : List Value) (hm : 0 < m) (hy : SrcV w y m news) (hl : news.length = m * size) (h1 : ∀ u ∈ news, u.oneCell' = true)
    (h63 : n + m ≤ maxLen) (hbytes : (n + m) * bytes ≤ 140737488355328) (hM : M ≤ w.heap.size) :
    ∃ p c w', (Builtin.append_ #[t, t] ty #[v, y]).run P w = .ok (.slice p (n + m) c) w' ∧ Blk e size M w' (.slice p (n + m) c) (n + m) (xs ++ news) ∧ w.grownBy w' v.ownBlock ∧ Sh w w' := by
  obtain ⟨h0, ⟨rfl, rfl⟩ | ⟨g, c, cs, rfl, hnc, hMg, hb, hcs, htake⟩⟩ := hB
  · obtain ⟨p, cap, w', hr, h2, h3⟩ := run_append_any (P := P) w t ty M e i z size bytes ht hi hz hsize hby hzs hsz (.slice none 0 0) 0 xs ⟨h0, .inl ⟨rfl, rfl⟩⟩ y m news hy hl h1 h63 hbytes hM
    exact ⟨p, cap, w', hr, Blk.of_own h2, h3, Sh.of_none h3⟩
  · rcases hy with ⟨h, _⟩ | ⟨_, ad, c', rfl, hc⟩
    · omega
    have hcut : ∀ (j : Nat) (u : Value), xs[j]? = some u → w.cell? ⟨g, j, none⟩ = some u := fun j u hj => by
      rw [cell_in hb, ← Array.getElem?_toList]
      rw [← htake, List.getElem?_take] at hj
      split at hj
      · exact hj
      · cases hj
    by_cases hroom : n + m ≤ c
    · have hsum : n * size + m * size ≤ cs.size := by
        have := Nat.mul_le_mul_right size hroom
        rw [Nat.add_mul] at this
        omega
      have hr := run_append_room_cells (P := P) w t ty e i ht hi g 0 n c ad m c' news (by rw [hl, hsize]) hc h1 hroom (fun j hj => by rw [cell_in hb, Nat.zero_add, hsize, Array.getElem?_eq_getElem (by omega)]; rfl) (fun j hj => free_in hb)
      rw [Nat.zero_add, hsize] at hr
      refine ⟨_, c, _, hr, ⟨by rw [List.length_append, h0, hl, Nat.add_mul], .inr ⟨g, c, setR cs (n * size) news, rfl, hroom, hMg, heap_setCells news w cs (n * size) hb, by rw [setR_size]; exact hcs, ?_⟩⟩, ?_, Sh.setCells hb _ _⟩
      · rw [Nat.add_mul, ← hl, take_setR (by omega), htake]
      · have hu := upd_setCells (S := [g]) (a := w) (g := g) (.inl (by simp)) news w (n * size) (Upd.refl _ _)
        exact ⟨hu.os, hu.tape, hu.output, hu.size, fun k hk hne => hu.block k hk (fun hm => hne (by rw [List.mem_singleton.1 hm]; rfl))⟩
    · obtain ⟨v', w', hr, h2, h3⟩ := run_append_arg_grows (P := P) w t ty e i z size bytes ht hi hz hsize hby hzs hsz ⟨g, 0, none⟩ n c xs h0 (fun j u hj => by rw [addN, Nat.zero_add]; exact hcut j u hj) ad m c' news hl hc (by omega) h63 hbytes
      obtain ⟨p, c2, rfl⟩ := Blk.form (Blk.of_own h2)
      exact ⟨p, c2, w', hr, (Blk.of_own h2).mono hM, ⟨h3.os, h3.tape, h3.output, h3.size, fun k hk _ => h3.block k hk (by simp)⟩, Sh.of_none h3⟩
theorem wpList_append_blk {ops : Array Oper} {rest : List Oper} {o : Oper} {a : Act} {w : World} {Q : Exit → Act → World → Prop} (hgd : o.guard = none) (s x : Operand) (t : TypeId)
    (ho : o.op = .call { callee := .builtin .append, args := #[s, x], argTypes := #[t, t] })
    (e : TypeId) (i : TypeInfo) (z : Value) (size bytes : Nat) (ht : P.underlying t = some (.slice e)) (hi : P.info? e = some i) (hz : i.zero = some z)
    (hsize : i.size = size) (hby : i.bytes = bytes) (hzs : z.cells.size = size) (hsz : 0 < size)
    (M : Nat) (v : Value) (n : Nat) (xs : List Value) (hs : a.eval s = v) (hB : Blk e size M w v n xs) (y : Value) (m : Nat) (news : List Value) (hm : 0 < m) (hx : a.eval x = y) (hy : SrcV w y m news) (hl : news.length = m * size)
    (h1 : ∀ u ∈ news, u.oneCell' = true) (h63 : n + m ≤ 9223372036854775807) (hbytes : (n + m) * bytes ≤ 140737488355328) (hM : M ≤ w.heap.size)
    (h : ∀ p c w', Blk e size M w' (.slice p (n + m) c) (n + m) (xs ++ news) → w.grownBy w' v.ownBlock → Sh w w' → wpList P ops Q rest (a.put o.dst (.slice p (n + m) c)) w') :
    wpList P ops Q (o :: rest) a w := by
  refine wpList_plain hgd fun K hK => ?_
  obtain ⟨p, c, w', hr, h2, h3, h4⟩ := run_append_blk (P := P) w t o.type M e i z size bytes ht hi hz hsize hby hzs hsz v n xs hB y m news hm hy hl h1 (by unfold maxLen; omega) hbytes hM
  unfold Oper.wp execOp
  simp only [ho, resolve, invoke, builtin, Sem.run_bind, Sem.run_pure, Result.andThen_ok, List.map_toArray, List.map_cons, List.map_nil, hs, hx, hr]
  exact hK _ _ (h p c w' h2 h3 h4)
end
/-- A list of its own, loosely. -/
theorem Blk.of_new {α : Type} {enc : α → List Value} {k : Nat} (hk : ∀ x, (enc x).length = k) {T : TypeId} {M : Nat} {w : World} {v : Value} {l : List α} (h : rw.NewRw enc k T M w v l) : Blk T k M w v l.length (rw.flat enc l) := by
  refine ⟨rw.flat_len hk l, ?_⟩
  rcases h with ⟨rfl, rfl⟩ | ⟨g, c, cs, rfl, hc, hg, hb, hcs, hat⟩
  · exact .inl ⟨rfl, rfl⟩
  · refine .inr ⟨g, c, cs, rfl, hc, hg, hb, hcs, ?_⟩
    refine List.ext_getElem? fun i => ?_
    by_cases hi : i < l.length * k
    · rw [List.getElem?_take_of_lt hi, Array.getElem?_toList]
      have h2 : (rw.flat enc l)[i]? = some ((rw.flat enc l)[i]'(by rw [rw.flat_len hk]; exact hi)) := List.getElem?_eq_getElem _
      have := hat i _ h2
      rw [Nat.zero_add] at this
      rw [this, h2]
    · rw [List.getElem?_eq_none (by rw [List.length_take]; omega), List.getElem?_eq_none (by rw [rw.flat_len hk]; omega)]
end Go.Proofs.Ythjcifokmcbaoaa
/- Package extra: what its five moves are, in plain words; whether a move speaks of a table; a list of texts sorted. Conditions: lists of at most 4294967295 elements. -/
namespace Go.Proofs.Ythjcifokmcbaoaa.st
open Go.ChangeShapes Go.WideShapes Go.ChangeAt Go.RowKit gl ls
open Go.Sort (grow putRow putCells Holds)

/-! ### Plain -/
def spkS (t : List UInt8) (s : Sp) : Bool := decide (s.table = t) || (decide (s.kind = 4) && decide (s.to = t))
def spkM (m : Mv) (t : List UInt8) : Bool := m.steps.any (spkS t)
def stepsX : List (List UInt8 × Sp) := [([120, 48, 49], ⟨6, [117, 115, 101, 114, 115], [97, 100, 109, 105, 110], [111, 119, 110, 101, 114], []⟩), ([120, 48, 50], ⟨1, [101, 118, 101, 110, 116, 115], [115, 101, 99, 111, 110, 100], [], [97, 103, 97, 105, 110]⟩), ([120, 48, 51], ⟨1, [109, 101, 116, 97], [116, 104, 101, 109, 101], [], [112, 108, 97, 105, 110]⟩), ([120, 48, 52], ⟨5, [101, 118, 101, 110, 116, 115], [], [], [114, 101, 118, 101, 114, 115, 101]⟩), ([120, 48, 53], ⟨2, [117, 115, 101, 114, 115], [103, 117, 101, 115, 116], [], []⟩)]
def needsX (out : List Mv) (t : List UInt8) : List (List UInt8) := ((baseL ++ out).filter fun m => spkM m t).map (·.id)
def nextX (out : List Mv) (x : List UInt8 × Sp) : Mv := ⟨x.1, needsX out x.2.table, [x.2]⟩
def extraTo : List (List UInt8 × Sp) → List Mv → List Mv
  | [], out => out
  | x :: r, out => extraTo r (out ++ [nextX out x])
def extraL : List Mv := extraTo stepsX []
theorem extra_len : extraL.length = 5 := by decide +kernel
theorem le_tr (a b c : List UInt8) (h : decide (a ≤ b) = true) (h2 : decide (b ≤ c) = true) : decide (a ≤ c) = true := by
  simp only [decide_eq_true_eq] at *
  exact List.le_trans h h2
theorem le_tot (a b : List UInt8) : (decide (a ≤ b) || decide (b ≤ a)) = true := by
  simp only [Bool.or_eq_true, decide_eq_true_eq]
  exact List.le_total a b
theorem sort_is {l T : List (List UInt8)} (hp : l.Perm T) (hT : T.Pairwise fun a b => decide (a ≤ b) = true) : l.mergeSort (fun x y => decide (x ≤ y)) = T := by
  have h1 := List.pairwise_mergeSort (le := fun x y => decide (x ≤ y)) le_tr le_tot l
  refine List.Perm.eq_of_pairwise ?_ h1 hT ((List.mergeSort_perm _ _).trans hp)
  intro a b _ _ h h2
  simp only [decide_eq_true_eq] at *
  exact List.le_antisymm h h2

theorem seq_decX (a b : List UInt8) : ((B a).toList == (B b).toList) = decide (a = b) := by
  by_cases h : a = b
  · rw [decide_eq_true h]; exact seq_true (by rw [h])
  · rw [decide_eq_false h]; exact seq_false (fun e => h (B_inj e))
theorem spC_oneX : ∀ (x : Sp), ∀ v ∈ spC x, v.oneCell' = true := by
  intro x v hv
  simp only [spC, List.mem_cons, List.not_mem_nil, or_false] at hv
  rcases hv with rfl | rfl | rfl | rfl | rfl <;> rfl
/-! ### Walks -/
set_option maxHeartbeats 2000000 in
set_option maxRecDepth 100000 in
theorem spk1_any (s : Sp) (t : List UInt8) (bx : Nat) (w : World) (hc : w.cell? ⟨bx, 0, none⟩ = some (.string (B t))) :
    Calls Try.prog 28 #[spA s, .pointer (some ⟨bx, 0, none⟩)] w fun e w' => e = .returned (.bool (spkS t s)) ∧ Below w.heap.size w w' := by
  unfold spA
  obtain ⟨wA, hA⟩ : ∃ wA, wA = w.alloc (.cells #[.int .i64 s.kind, .string (B s.table), .string (B s.key), .string (B s.to), .string (B s.text)] 35) := ⟨_, rfl⟩
  obtain ⟨hbA, c0, c1, c2, c3, c4⟩ := box1 hA
  have d0 := cell_then hc hbA
  have Hr : Hid (spkS t s = (decide (s.table = t) || (decide (s.kind = 4) && decide (s.to = t)))) := Lib.hid rfl
  have q1 := seq_decX s.table t
  have q2 := seq_decX s.to t
  have q3 : (s.kind == 4) = decide (s.kind = 4) := rfl
  have HA := Lib.hid hA
  have HbA := Lib.hid hbA
  clear hA hbA hc
  generalize spkS t s = r at *
  generalize decide (s.table = t) = d1 at *
  generalize decide (s.to = t) = d2 at *
  generalize hd3 : decide (s.kind = 4) = d3 at *
  clear hd3
  generalize B s.table = x1 at *
  generalize B s.key = x2 at *
  generalize B s.to = x3 at *
  generalize B s.text = x4 at *
  generalize B t = tt at *
  cases d1
  · cases d3
    · go_enter Try.func28, Try.ntmps28
      go_upto_region 1 with (fail)
      try rw [← HA.out]
      go_wp2_with fail
      go_ret
      exact ⟨ret_bool (by rw [Hr.out]; rfl), HbA.out⟩
    · go_enter Try.func28, Try.ntmps28
      go_upto_region 1 with (fail)
      try rw [← HA.out]
      go_wp2_with fail
      go_ret
      exact ⟨ret_bool (by rw [Hr.out]; simp), HbA.out⟩
  · go_enter Try.func28, Try.ntmps28
    go_upto_region 1 with (fail)
    try rw [← HA.out]
    go_wp2_with fail
    go_ret
    exact ⟨ret_bool (by rw [Hr.out]; rfl), HbA.out⟩
theorem egSpk (args : Array Value) (w : World) : (callFunc 28 args).run Try.prog w = .ok (.enter 28 args) w := enters Try.func28 (by kernel_rfl) (by kernel_rfl) args w
theorem hasSp_any (f : Sp → Bool) (g : Nat) (lb : Array Value) (eg : ∀ args w, (callFunc g args).run Try.prog w = .ok (.enter g args) w) (p : Option Addr) (m c : Nat) (l : List Sp) (hm0 : 0 < m) (hm : m ≤ 4294967295) (w : World) (h : Sps w (.slice p m c) l)
    (hp : ∀ (W : World) (x : Sp), Below w.heap.size w W → Calls Try.prog g (#[spA x] ++ lb) W fun e w' => e = .returned (.bool (f x)) ∧ Below w.heap.size w w') :
    Calls Try.prog 27 #[.slice p m c, .func (.func g) #[] lb] w fun e w' => e = .returned (.bool (l.any f)) ∧ Below w.heap.size w w' := by
  obtain ⟨hlen, hmc, hptr⟩ := h.ptr
  obtain ⟨b, o, rfl, hb⟩ := hptr hm0
  haveI : Inhabited Sp := ⟨⟨0, [], [], [], []⟩⟩
  refine (AnyQ.slices_ContainsFunc Try.hasSp 5 Try.isAgg35 Try.sizeOf35 spC spC_len f g lb eg b o m c l w hp (by omega) (by omega) hb (fun j hj i v hv => ?_)).mono ?_
  · rw [getElem!_pos l j hj] at hv
    have := h.cell (List.getElem?_eq_getElem hj) hv
    rw [Nat.add_assoc]
    exact this
  · rintro e w' ⟨rfl, hb'⟩
    refine ⟨?_, hb'⟩
    have ht : l.take m = l := by rw [← hlen]; exact List.take_length
    rw [ht]
set_option maxHeartbeats 2000000 in
set_option maxRecDepth 100000 in
theorem speaksX_any (m : Mv) (t : List UInt8) (pn ps : Option Addr) (nn cn ns cs : Nat) (hs0 : 0 < ns) (hs : ns ≤ 4294967295) (w : World) (h2 : Sps w (.slice ps ns cs) m.steps) :
    Calls Try.prog 21 #[.agg #[.string (B m.id), .slice pn nn cn, .slice ps ns cs], .string (B t)] w fun e w' => e = .returned (.bool (spkM m t)) ∧ Below w.heap.size w w' := by
  obtain ⟨wA, hA⟩ : ∃ wA, wA = w.alloc (.cells #[.string (B m.id), .slice pn nn cn, .slice ps ns cs] 31) := ⟨_, rfl⟩
  obtain ⟨wB, hB⟩ : ∃ wB, wB = wA.alloc (.cells #[.string (B t)] 9) := ⟨_, rfl⟩
  have zA : wA.heap.size = w.heap.size + 1 := by rw [hA]; simp
  have kA : wA.heap[w.heap.size]? = some (.cells #[.string (B m.id), .slice pn nn cn, .slice ps ns cs] 31 (0, 0)) := by rw [hA]; exact heap_alloc_new w _
  have kB : wB.heap[w.heap.size + 1]? = some (.cells #[.string (B t)] 9 (0, 0)) := by rw [hB, ← zA]; exact heap_alloc_new wA _
  have kA' : wB.heap[w.heap.size]? = some (.cells #[.string (B m.id), .slice pn nn cn, .slice ps ns cs] 31 (0, 0)) := by rw [hB]; exact heap_al kA _
  have hbA : Below w.heap.size w wA := by rw [hA]; exact (Below.refl _ _).alloc (Nat.le_refl _) _
  have hbB : Below w.heap.size w wB := by rw [hB]; exact hbA.alloc (by omega) _
  have c2 : wB.cell? ⟨w.heap.size, 2, none⟩ = some (.slice ps ns cs) := cell_in kA'
  have cb : wB.cell? ⟨w.heap.size + 1, 0, none⟩ = some (.string (B t)) := cell_in kB
  have HH := Lib.hid (hasSp_any (spkS t) 28 #[.pointer (some ⟨w.heap.size + 1, 0, none⟩)] egSpk ps ns cs m.steps hs0 hs wB (h2.later hbB) (fun W x hW => (spk1_any x t (w.heap.size + 1) W (cell_then cb hW)).mono fun e w' ⟨h1, h2⟩ => ⟨h1, hW.trans (h2.mono hW.size)⟩))
  have HA := Lib.hid hA
  have HB := Lib.hid hB
  have HbB := Lib.hid hbB
  clear h2 hA hB kA kB kA' hbA hbB cb
  generalize B m.id = nm at *
  generalize B t = tt at *
  go_enter Try.func21, Try.ntmps21
  go_upto_region 1 with (fail)
  try rw [← HA.out]
  try rw [← HB.out]
  go_wp2_with fail
  refine HH.out.mono ?_
  rintro e w1 ⟨rfl, hb1⟩
  have Hb1 := Lib.hid (then_bel HbB.out hb1)
  clear hb1
  go_wp2_with fail
  go_ret
  exact ⟨rfl, Hb1.out⟩
/-- slices.Sort of texts that lie in a block of their own. -/
theorem sortTx_any (M : Nat) (v : Value) (l T : List (List UInt8)) (hp : l.Perm T) (hT : T.Pairwise fun a b => decide (a ≤ b) = true) (hl : l.length ≤ 4294967295) (w : World) (h : NewTx M w v l) :
    Calls Try.prog 23 #[v] w fun e w' => e = .returned (.tuple #[]) ∧ NewTx M w' v T ∧ w.grownBy w' v.ownBlock := by
  have hlT : T.length = l.length := hp.symm.length_eq
  rcases h with ⟨rfl, rfl⟩ | ⟨g, c, cs, rfl, hc, hg, hb, hcs, hat⟩
  · obtain rfl : T = [] := List.eq_nil_of_length_eq_zero (by rw [hlT]; rfl)
    refine (Try.slices_Sort_string_none none 0 w).mono ?_
    rintro e w' ⟨rfl, rfl⟩
    exact ⟨rfl, .inl ⟨rfl, rfl⟩, ⟨rfl, rfl, rfl, Nat.le_refl _, fun _ _ _ => rfl⟩⟩
  · have hH : Holds encStr w g 0 l.toArray := by
      intro j hj
      have hj' : j < l.length := by simpa using hj
      rw [Nat.zero_add, cell_in hb]
      refine ⟨?_, free_in hb⟩
      have h1 := hat (j * 1 + 0) _ (rw.flat_at txC_len l j l[j] 0 _ (List.getElem?_eq_getElem hj') rfl)
      rw [Nat.zero_add, Nat.mul_one, Nat.add_zero] at h1
      rw [h1, getElem!_pos l.toArray j hj]
      rfl
    refine (Try.slices_Sort_string g 0 c l w hH (lt_of_block hb) (by omega)).mono ?_
    rintro e w' ⟨rfl, n, os, rfl⟩
    rw [sort_is hp hT]
    have hsz : (putCells encStr 0 T.toArray cs).size = cs.size := by simp [putCells]
    have hlt := lt_of_block hb
    have hget : w.heap[g] = .cells cs 9 (0, 0) := by simpa [Array.getElem?_eq_getElem hlt] using hb
    have hblk : (grow (putRow encStr (Sort.ahead w n) g 0 T.toArray) os).heap[g]? = some (.cells (putCells encStr 0 T.toArray cs) 9 (0, 0)) := by
      show (w.heap.modify g _ ++ os)[g]? = _
      rw [Array.getElem?_append_left (by simpa using hlt), Array.getElem?_eq_getElem (by simpa using hlt), Array.getElem_modify_self, hget]
      rfl
    refine ⟨rfl, .inr ⟨g, c, _, by rw [hlT], by rw [hlT]; exact hc, hg, hblk, by rw [hsz]; exact hcs, fun i v hi => ?_⟩, ⟨rfl, rfl, rfl, ?_, fun k hk hne => ?_⟩⟩
    · have hi1 := lt_get hi
      rw [rw.flat_len txC_len, Nat.mul_one] at hi1
      have h2 := rw.flat_at txC_len T i T[i] 0 _ (List.getElem?_eq_getElem hi1) rfl
      rw [Nat.mul_one, Nat.add_zero] at h2
      rw [Nat.zero_add]
      have hics : i < cs.size := by omega
      unfold putCells
      rw [Array.getElem?_mapIdx, Array.getElem?_eq_getElem hics]
      simp only [Option.map_some, Nat.zero_le, Nat.zero_add, true_and, List.size_toArray, hi1, if_true, Nat.sub_zero]
      rw [getElem!_pos T.toArray i (by simpa using hi1)]
      rw [h2] at hi
      exact hi
    · show w.heap.size ≤ (w.heap.modify g _ ++ os).size
      simp
    · show (w.heap.modify g _ ++ os)[k]? = _
      rw [Array.getElem?_append_left (by simpa using hk), Array.getElem?_modify, if_neg (fun e => hne (by rw [e]; rfl))]
end Go.Proofs.Ythjcifokmcbaoaa.st
/- Laws on maps for any program: an entry of a map's literal. No program in sight; no conditions beside those stated. -/
namespace Go.Proofs.Ythjcifokmcbaoaa
open Go.RowKit Go.Maps
/-- An entry of a map's literal, at the operation. -/
theorem wpList_insert_own {H : Type} {P : Program} (w : World) {ops : Array Oper} {rest : List Oper} {o : Oper} {a : Act} {Q : Exit → Act → World → Prop}
    (hg : o.guard = none) (m x v : Operand) (t : TypeId) (hop : o.op = Op.insert t m x v)
    (k e : TypeId) (K : Keyed P k) (ht : P.underlying t = some (.map k e)) (R : Value → Option (DataW H × List MemPlace)) (b n : Nat) (D : DataW H)
    (hm : a.eval m = .map (some b)) (hown : w.ownsMap P k R b n D) (hn : n < maxLen) (key val : Value) (kl : Lit) (hx : a.eval x = key) (hv : a.eval v = val) (hkey : keyOf P k key = some kl)
    (d : DataW H) (ps : List MemPlace) (hval : R val = some (d, ps))
    (hK : ∀ w', w'.ownsMap P k R b (n + 1) (D.put kl d) → w.grownBy w' (some b) → wpList P ops Q rest (a.put o.dst undef) w') :
    wpList P ops Q (o :: rest) a w := by
  refine wpList_plain hg fun K' hK' => ?_
  obtain ⟨w', hrun, r1, r2⟩ := hown.update K ht hn hkey hval
  unfold Oper.wp
  simp [execOp, hop, hm, hx, hv, hrun, Result.andThen]
  exact hK' _ _ (hK w' r1 r2)
end Go.Proofs.Ythjcifokmcbaoaa
/- Package extra: the map of its steps. No conditions. -/
namespace Go.Proofs.Ythjcifokmcbaoaa.st
open Go.ChangeShapes Go.WideShapes Go.WideMaps Go.ChangeMaps Go.ChangeAt Go.RowKit Go.Maps gl ls

/-- A step, as a map's element. -/
def stepD (s : Sp) : DataW Unit := .agg [.lit (.int .i64 s.kind), .lit (.string s.table), .lit (.string s.key), .lit (.string s.to), .lit (.string s.text)]
def stepR : Value → Option (DataW Unit × List MemPlace)
  | .agg ⟨[.int .i64 k, .string a, .string b, .string c, .string d]⟩ => some (.agg [.lit (.int .i64 k), .lit (.string a.data.toList), .lit (.string b.data.toList), .lit (.string c.data.toList), .lit (.string d.data.toList)], [])
  | _ => none
theorem stepR_spA (s : Sp) : stepR (spA s) = some (stepD s, []) := by
  unfold spA stepD stepR
  simp
theorem stepR_shape {v : Value} {y : DataW Unit × List MemPlace} (h : stepR v = some y) : ∃ s : Sp, v = spA s ∧ y = (stepD s, []) := by
  unfold stepR at h
  split at h
  · rename_i k a b c d
    refine ⟨⟨k, a.data.toList, b.data.toList, c.data.toList, d.data.toList⟩, ?_, (Option.some.inj h).symm⟩
    unfold spA
    simp only [B_of]
  · cases h
theorem stepD_inj {s t : Sp} (h : stepD s = stepD t) : s = t := by
  obtain ⟨k, a, b, c, d⟩ := s
  obtain ⟨k', a', b', c', d'⟩ := t
  unfold stepD at h
  simp only [DataW.agg.injEq, List.cons.injEq, DataW.lit.injEq, Lit.int.injEq, Lit.string.injEq, true_and, and_true] at h
  obtain ⟨rfl, rfl, rfl, rfl, rfl⟩ := h
  rfl
theorem lawX : Keyed Try.prog 9 := string_keyed Try.underlying9
theorem keyX (s : ByteArray) (h : s.size ≤ maxLen) : keyOf Try.prog 9 (.string s) = some (.string s.data.toList) := keyOf_string_mk Try.underlying9 h
def mapX : DataW Unit := stepsX.foldl (fun D x => D.put (.string x.1) (stepD x.2)) (.map [])
theorem mapX_at : ∀ x ∈ stepsX, ∀ z, mapX.atKey (.string x.1) z = stepD x.2 := by
  intro x hx z
  simp only [stepsX, List.mem_cons, List.not_mem_nil, or_false] at hx
  rcases hx with rfl | rfl | rfl | rfl | rfl <;> rfl
theorem mapX_has (k : List UInt8) (h : Maps.has mapX (.string k) = true) : ∃ x ∈ stepsX, x.1 = k := by
  have hm : mapX = .map [(.string [120, 48, 49], stepD stepsX[0].2), (.string [120, 48, 50], stepD stepsX[1].2), (.string [120, 48, 51], stepD stepsX[2].2), (.string [120, 48, 52], stepD stepsX[3].2), (.string [120, 48, 53], stepD stepsX[4].2)] := rfl
  rw [hm, has_eq] at h
  simp only [List.any_cons, List.any_nil, Bool.or_false, Bool.or_eq_true] at h
  have hk : ∀ a : List UInt8, Lit.sameKey (.string a) (.string k) = true → a = k := by
    intro a ha
    by_cases he : (Lit.string a) = .string k
    · injection he
    · rw [sameKey_ne he] at ha
      cases ha
  rcases h with h | h | h | h | h
  · exact ⟨stepsX[0], by simp [stepsX], hk _ h⟩
  · exact ⟨stepsX[1], by simp [stepsX], hk _ h⟩
  · exact ⟨stepsX[2], by simp [stepsX], hk _ h⟩
  · exact ⟨stepsX[3], by simp [stepsX], hk _ h⟩
  · exact ⟨stepsX[4], by simp [stepsX], hk _ h⟩
theorem zeroSp (w : World) : (zeroValue 35).run Try.prog w = .ok (.agg #[.int .i64 0, .string .empty, .string .empty, .string .empty, .string .empty]) w := by kernel_rfl
/-- The map, in memory. -/
abbrev MapIs (w : World) (b : Nat) : Prop := w.ownsMap Try.prog 9 stepR b 5 mapX
theorem lookX {w : World} {b : Nat} (h : MapIs w b) {x : List UInt8 × Sp} (hx : x ∈ stepsX) (hl : x.1.length ≤ 100) : (Instr.lookup 42 (.map (some b)) (.string (B x.1)) false).run Try.prog w = .ok (spA x.2) w := by
  obtain ⟨v, ps, hr, hv⟩ := World.ownsMap.lookup h lawX Try.underlying42 (zeroSp w) (zd := stepD ⟨0, [], [], [], []⟩) (zp := []) (by
    have := stepR_spA ⟨0, [], [], [], []⟩
    exact this) (keyX (B x.1) (by rw [B_size]; unfold maxLen; omega))
  rw [B_list, mapX_at x hx] at hv
  obtain ⟨s, rfl, hy⟩ := stepR_shape hv
  obtain rfl := stepD_inj (congrArg Prod.fst hy)
  exact hr
set_option maxRecDepth 100000 in
theorem fld1 (k : Int) (a b c d : ByteArray) (w : World) : (Instr.field 35 (.agg #[.int .i64 k, .string a, .string b, .string c, .string d]) 1).run Try.prog w = .ok (.string a) w := by kernel_rfl
set_option maxHeartbeats 4000000 in
set_option maxRecDepth 100000 in
theorem stepsX_any (w : World) : Calls Try.prog 22 #[] w fun e w' => e = .returned (.map (some w.heap.size)) ∧ MapIs w' w.heap.size ∧ Below w.heap.size w w' ∧ w.heap.size < w'.heap.size := by
  have hmm := @run_makeMap Try.prog
  have H0 : Hid ((w.alloc (.map #[] 0)).ownsMap Try.prog 9 stepR w.heap.size 0 (.map [])) := Lib.hid (World.ownsMap_made _ _ _ _)
  have Hb0 : Hid (Below w.heap.size w (w.alloc (.map #[] 0))) := Lib.hid ((Below.refl _ _).alloc (Nat.le_refl _) _)
  have hz0 : w.heap.size < (w.alloc (.map #[] 0)).heap.size := by simp
  have h5 : ∀ k : ByteArray, k.size ≤ 100 → k.size ≤ maxLen := fun k hk => by unfold maxLen; omega
  have K1 := Lib.hid (keyX ⟨#[120, 48, 49]⟩ (h5 _ (by decide)))
  have K2 := Lib.hid (keyX ⟨#[120, 48, 50]⟩ (h5 _ (by decide)))
  have K3 := Lib.hid (keyX ⟨#[120, 48, 51]⟩ (h5 _ (by decide)))
  have K4 := Lib.hid (keyX ⟨#[120, 48, 52]⟩ (h5 _ (by decide)))
  have K5 := Lib.hid (keyX ⟨#[120, 48, 53]⟩ (h5 _ (by decide)))
  have R1 := Lib.hid (stepR_spA stepsX[0].2)
  have R2 := Lib.hid (stepR_spA stepsX[1].2)
  have R3 := Lib.hid (stepR_spA stepsX[2].2)
  have R4 := Lib.hid (stepR_spA stepsX[3].2)
  have R5 := Lib.hid (stepR_spA stepsX[4].2)
  clear h5
  go_enter Try.func22, Try.ntmps22
  focus
    go_wp2_with (refine wpList_insert_own _ rfl _ _ _ 42 rfl 9 35 lawX Try.underlying42 stepR w.heap.size 0 _ rfl H0.out (by unfold maxLen; omega) _ _ _ rfl rfl K1.out _ [] R1.out ?_)
  intro w1 h1 g1
  have H1 := Lib.hid h1
  have Hb1 := Lib.hid (Hb0.out.grown g1 (Nat.le_of_lt hz0) (fun k hk => by cases hk; exact Nat.le_refl _))
  have hz1 := Nat.lt_of_lt_of_le hz0 g1.size
  clear h1 g1
  focus
    go_wp2_with (refine wpList_insert_own _ rfl _ _ _ 42 rfl 9 35 lawX Try.underlying42 stepR w.heap.size 1 _ rfl H1.out (by unfold maxLen; omega) _ _ _ rfl rfl K2.out _ [] R2.out ?_)
  intro w2 h2 g2
  have H2 := Lib.hid h2
  have Hb2 := Lib.hid (Hb1.out.grown g2 (Nat.le_of_lt hz1) (fun k hk => by cases hk; exact Nat.le_refl _))
  have hz2 := Nat.lt_of_lt_of_le hz1 g2.size
  clear h2 g2
  focus
    go_wp2_with (refine wpList_insert_own _ rfl _ _ _ 42 rfl 9 35 lawX Try.underlying42 stepR w.heap.size 2 _ rfl H2.out (by unfold maxLen; omega) _ _ _ rfl rfl K3.out _ [] R3.out ?_)
  intro w3 h3 g3
  have H3 := Lib.hid h3
  have Hb3 := Lib.hid (Hb2.out.grown g3 (Nat.le_of_lt hz2) (fun k hk => by cases hk; exact Nat.le_refl _))
  have hz3 := Nat.lt_of_lt_of_le hz2 g3.size
  clear h3 g3
  focus
    go_wp2_with (refine wpList_insert_own _ rfl _ _ _ 42 rfl 9 35 lawX Try.underlying42 stepR w.heap.size 3 _ rfl H3.out (by unfold maxLen; omega) _ _ _ rfl rfl K4.out _ [] R4.out ?_)
  intro w4 h4 g4
  have H4 := Lib.hid h4
  have Hb4 := Lib.hid (Hb3.out.grown g4 (Nat.le_of_lt hz3) (fun k hk => by cases hk; exact Nat.le_refl _))
  have hz4 := Nat.lt_of_lt_of_le hz3 g4.size
  clear h4 g4
  focus
    go_wp2_with (refine wpList_insert_own _ rfl _ _ _ 42 rfl 9 35 lawX Try.underlying42 stepR w.heap.size 4 _ rfl H4.out (by unfold maxLen; omega) _ _ _ rfl rfl K5.out _ [] R5.out ?_)
  intro w5 h5 g5
  have H5 := Lib.hid h5
  have Hb5 := Lib.hid (Hb4.out.grown g5 (Nat.le_of_lt hz4) (fun k hk => by cases hk; exact Nat.le_refl _))
  have hz5 := Nat.lt_of_lt_of_le hz4 g5.size
  clear h5 g5
  go_wp2_with fail
  go_ret
  exact ⟨rfl, H5.out, Hb5.out, hz5⟩
end Go.Proofs.Ythjcifokmcbaoaa.st
