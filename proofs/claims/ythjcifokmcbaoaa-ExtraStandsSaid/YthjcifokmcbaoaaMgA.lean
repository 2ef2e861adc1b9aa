/- Laws and contracts on which the statement rests, part A: each text says what it proves, and its conditions. -/
import Derived.Below
import Derived.Deep.Draws
import Derived.OneCell
import Derived.Lib.Hide
import Derived.Laws.IdiomCopy
import Derived.WalkKit
import Derived.ArgAppend
import Derived.Test.YthjcifokmcbaoaaRows
import Derived.WalkLawsBesides
import Derived.WalkSpells
import Derived.Deep.MidRow
import Derived.Handy
import Derived.Maps.AppendAt
import Derived.Deep.AppendLies
import Derived.Lib.SplitLaws
import Derived.Lib.Strings
import Derived.Test.YthjcifokmcbaoaaShelf
import Derived.Deep.RegionHeld3
import Derived.StillTactics
/- Laws on memory for any program: which old blocks a call may have turned, and that what is read elsewhere stays. No program in sight; no conditions beside those stated. -/
namespace Go.Proofs.Ythjcifokmcbaoaa
open Go.RowKit

/-- No old block outside S has turned. -/
structure Upd (S : List Nat) (w w' : World) : Prop where
  os : w'.os = w.os
  tape : w'.tape = w.tape
  output : w'.output = w.output
  size : w.heap.size ≤ w'.heap.size
  block : ∀ k, k < w.heap.size → k ∉ S → w'.heap[k]? = w.heap[k]?

namespace Upd
variable {S T : List Nat} {a b c w w' : World}
theorem refl (S : List Nat) (w : World) : Upd S w w := ⟨rfl, rfl, rfl, Nat.le_refl _, fun _ _ _ => rfl⟩
theorem of_below (h : Below w.heap.size w w') (S : List Nat) : Upd S w w' := ⟨h.os, h.tape, h.output, h.size, fun k hk _ => h.block k hk⟩
theorem of_grown {row : Option Nat} (h : w.grownBy w' row) (hr : ∀ k, row = some k → k ∈ S) : Upd S w w' :=
  ⟨h.os, h.tape, h.output, h.size, fun k hk hn => h.block k hk fun e => hn (hr k e.symm)⟩
theorem trans (h : Upd S a b) (h2 : Upd T b c) (hT : ∀ k ∈ T, k ∈ S ∨ a.heap.size ≤ k) : Upd S a c :=
  ⟨h2.os.trans h.os, h2.tape.trans h.tape, h2.output.trans h.output, Nat.le_trans h.size h2.size, fun k hk hn =>
    (h2.block k (Nat.lt_of_lt_of_le hk h.size) fun e => by rcases hT k e with h' | h'; exact hn h'; omega).trans (h.block k hk hn)⟩
theorem mono (h : Upd S w w') (hT : ∀ k ∈ S, k ∈ T) : Upd T w w' := ⟨h.os, h.tape, h.output, h.size, fun k hk hn => h.block k hk fun e => hn (hT k e)⟩
theorem drew (h : Upd S a w) : Upd S a w.drew := ⟨h.os, h.tape, h.output, h.size, h.block⟩
theorem drewN (h : Upd S a w) (n : Nat) : Upd S a (w.drewN n) := ⟨h.os, h.tape, h.output, h.size, h.block⟩
theorem alloc (h : Upd S a w) (o : Obj) : Upd S a (w.alloc o) :=
  h.trans (T := []) ⟨rfl, rfl, rfl, by simp, fun k hk _ => Below.heap_alloc _ _ _ hk⟩ (by simp)
theorem setCell (h : Upd S a w) {p : Addr} (hp : p.block ∈ S ∨ a.heap.size ≤ p.block) (u : Value) : Upd S a (w.setCell p u) :=
  ⟨h.os, h.tape, h.output, by simpa [World.setCell] using h.size, fun k hk hn => (Below.heap_setCell w p u k (by
    rintro rfl
    rcases hp with h' | h'
    · exact hn h'
    · omega)).trans (h.block k hk hn)⟩
theorem grown {row : Option Nat} (h : Upd S a w) (hg : w.grownBy w' row) (hr : ∀ k, row = some k → k ∈ S ∨ a.heap.size ≤ k) : Upd S a w' :=
  ⟨hg.os.trans h.os, hg.tape.trans h.tape, hg.output.trans h.output, Nat.le_trans h.size hg.size, fun k hk hn => (hg.block k (Nat.lt_of_lt_of_le hk h.size) (by
    intro e
    rcases hr k e.symm with h' | h'
    · exact hn h'
    · omega)).trans (h.block k hk hn)⟩
theorem then_below (h : Upd S a w) (hb : Below w.heap.size w w') : Upd S a w' := h.trans (T := []) (of_below hb []) (by simp)
theorem below (h : Upd S w w') {B : Nat} (hS : ∀ k ∈ S, B ≤ k) (hB : B ≤ w.heap.size) : Below B w w' :=
  ⟨h.os, h.tape, h.output, h.size, fun k hk => h.block k (Nat.lt_of_lt_of_le hk hB) fun e => by have := hS k e; omega⟩
theorem cell (h : Upd S w w') {p : Addr} (hp : p.block < w.heap.size) (hn : p.block ∉ S) : w'.cell? p = w.cell? p := World.cell?_of_block (h.block _ hp hn)
theorem frozen (h : Upd S w w') {p : Addr} (hp : p.block < w.heap.size) (hn : p.block ∉ S) : w'.frozen? p = w.frozen? p := World.frozen?_of_block (h.block _ hp hn)
theorem obj (h : Upd S w w') {k : Nat} {o : Obj} (ho : w.heap[k]? = some o) (hn : k ∉ S) : w'.heap[k]? = some o := (h.block k (lt_of_block ho) hn).trans ho
theorem row (h : Upd S w w') {base n size : Nat} {e : TypeId} {v : Value} {xs : List Value} (ho : w.ownsRow base e size v n xs) (hn : ∀ g, v.ownBlock = some g → g ∉ S) : w'.ownsRow base e size v n xs := by
  refine ⟨ho.1, ?_⟩
  rcases ho.2 with h2 | ⟨g, cap, cur, rfl, hb, hg, r⟩
  · exact .inl h2
  · exact .inr ⟨g, cap, cur, rfl, hb, h.obj hg (hn g rfl), r⟩
end Upd

/-- A call may turn S alone; what it leaves lies in S and in new blocks. -/
def Moves (S : List Nat) (w w' : World) (R : List Nat → Prop) : Prop := ∃ S', R S' ∧ Upd S w w' ∧ ∀ k ∈ S', k ∈ S ∨ w.heap.size ≤ k
def Apart (S T : List Nat) : Prop := ∀ k ∈ S, k ∉ T
theorem Apart.symm {S T : List Nat} (h : Apart S T) : Apart T S := fun k hk hn => h k hn hk
theorem Apart.moved {S S' T : List Nat} {w : World} (h : Apart S T) (hT : ∀ k ∈ T, k < w.heap.size) (hS : ∀ k ∈ S', k ∈ S ∨ w.heap.size ≤ k) : Apart S' T := by
  intro k hk hn
  rcases hS k hk with h' | h'
  · exact h k h' hn
  · have := hT k hn; omega
theorem Apart.new {S T : List Nat} {w : World} (hT : ∀ k ∈ T, k < w.heap.size) (hS : ∀ k ∈ S, w.heap.size ≤ k) : Apart S T := by
  intro k hk hn
  have := hS k hk
  have := hT k hn
  omega

theorem ne_of_types {w : World} {a b : Nat} {c d : Array Value} {s t : TypeId} {f g : Nat × Nat} (ha : w.heap[a]? = some (.cells c s f)) (hb : w.heap[b]? = some (.cells d t g)) (h : s ≠ t) : a ≠ b := by
  rintro rfl
  rw [ha] at hb
  cases hb
  exact h rfl
theorem cell_in {w : World} {b o : Nat} {c : Array Value} {t : TypeId} {f : Nat × Nat} (h : w.heap[b]? = some (.cells c t f)) : w.cell? ⟨b, o, none⟩ = c[o]? := by simp [World.cell?, h]
theorem free_in {w : World} {b o : Nat} {c : Array Value} {t : TypeId} (h : w.heap[b]? = some (.cells c t (0, 0))) : w.frozen? ⟨b, o, none⟩ = false := by simp [World.frozen?, h]
theorem heap_set {w : World} {b o : Nat} {c : Array Value} {t : TypeId} {f : Nat × Nat} (h : w.heap[b]? = some (.cells c t f)) (u : Value) : (w.setCell ⟨b, o, none⟩ u).heap[b]? = some (.cells (c.setIfInBounds o u) t f) := by
  have hlt := lt_of_block h
  have h' : w.heap[b] = .cells c t f := by simpa [Array.getElem?_eq_getElem hlt] using h
  show (w.heap.modify b _)[b]? = _
  rw [Array.getElem?_eq_getElem (by simpa using hlt), Array.getElem_modify_self, h']
  rfl
theorem heap_set_ne {w : World} {k : Nat} {p : Addr} {o : Obj} (h : w.heap[k]? = some o) (u : Value) (hne : k ≠ p.block) : (w.setCell p u).heap[k]? = some o := (Below.heap_setCell w p u k hne).trans h
theorem heap_al {w : World} {k : Nat} {o : Obj} (h : w.heap[k]? = some o) (o' : Obj) : (w.alloc o').heap[k]? = some o := (Below.heap_alloc w o' k (lt_of_block h)).trans h
end Go.Proofs.Ythjcifokmcbaoaa
/- Laws on memory for any program: lists of structs that are marked by their owner, then grown, one by one. No program in sight; no conditions beside those stated. -/
namespace Go.Proofs.Ythjcifokmcbaoaa.ls
open Go.RowKit

theorem lt_get {α : Type} {l : List α} {x : α} {i : Nat} (h : l[i]? = some x) : i < l.length := by
  rcases Nat.lt_or_ge i l.length with h1 | h1
  · exact h1
  · rw [List.getElem?_eq_none h1] at h; cases h
theorem get_snoc {α : Type} {l : List α} {x y : α} {i : Nat} (h : (l ++ [x])[i]? = some y) : l[i]? = some y ∨ (i = l.length ∧ y = x) := by
  rcases Nat.lt_or_ge i l.length with h1 | h1
  · rw [List.getElem?_append_left h1] at h; exact .inl h
  · rw [List.getElem?_append_right h1] at h
    have := lt_get h
    simp at this
    have hi : i = l.length := by omega
    subst hi
    simp at h
    exact .inr ⟨rfl, h.symm⟩
theorem addN (g o k : Nat) : (⟨g, o, none⟩ : Addr).add k = ⟨g, o + k, none⟩ := by unfold Addr.add; split <;> simp_all

/-- The cells from o on. -/
def At (cs : Array Value) (o : Nat) (m : List Value) : Prop := ∀ (i : Nat) (v : Value), m[i]? = some v → cs[o + i]? = some v
def setR : Array Value → Nat → List Value → Array Value
  | cs, _, [] => cs
  | cs, o, v :: r => setR (cs.setIfInBounds o v) (o + 1) r
theorem setR_size : ∀ (vs : List Value) (cs : Array Value) (o : Nat), (setR cs o vs).size = cs.size
  | [], _, _ => rfl
  | v :: r, cs, o => by rw [setR, setR_size r]; simp
theorem setR_out : ∀ (vs : List Value) (cs : Array Value) (o i : Nat), i < o ∨ o + vs.length ≤ i → (setR cs o vs)[i]? = cs[i]?
  | [], _, _, _, _ => rfl
  | v :: r, cs, o, i, h => by
    rw [setR, setR_out r _ _ _ (by simp at h; omega), Array.getElem?_setIfInBounds_ne (by simp at h; omega)]
theorem setR_in : ∀ (vs : List Value) (cs : Array Value) (o : Nat), o + vs.length ≤ cs.size → At (setR cs o vs) o vs
  | [], _, _, _ => fun i v h => by simp at h
  | u :: r, cs, o, h => by
    intro i v hi
    rw [setR]
    cases i with
    | zero =>
      simp at hi
      subst hi
      rw [setR_out r _ _ _ (by omega), Nat.add_zero, Array.getElem?_setIfInBounds_self_of_lt (by simp at h; omega)]
    | succ i =>
      have := setR_in r (cs.setIfInBounds o u) (o + 1) (by simp at h ⊢; omega) i v (by simpa using hi)
      rwa [show o + 1 + i = o + (i + 1) by omega] at this
theorem At.out {cs : Array Value} {o o' : Nat} {m vs : List Value} (h : At cs o' m) (hd : o' + m.length ≤ o ∨ o + vs.length ≤ o') : At (setR cs o vs) o' m := by
  intro i v hi
  have := lt_get hi
  rw [setR_out vs cs o (o' + i) (by omega)]
  exact h i v hi
theorem heap_setCells {g : Nat} {T : TypeId} {f : Nat × Nat} : ∀ (vs : List Value) (w : World) (cs : Array Value) (o : Nat), w.heap[g]? = some (.cells cs T f) → (w.setCells g o vs).heap[g]? = some (.cells (setR cs o vs) T f)
  | [], _, _, _, h => h
  | v :: r, _w, _cs, _o, h => heap_setCells r _ _ _ (heap_set h v)
theorem heap_setCells_ne {g k : Nat} (hne : k ≠ g) : ∀ (vs : List Value) (w : World) (o : Nat), (w.setCells g o vs).heap[k]? = w.heap[k]?
  | [], _, _ => rfl
  | v :: r, w, o => by rw [World.setCells, heap_setCells_ne hne r, Below.heap_setCell w ⟨g, o, none⟩ v k hne]
theorem setCells_size {g : Nat} : ∀ (vs : List Value) (w : World) (o : Nat), (w.setCells g o vs).heap.size = w.heap.size
  | [], _, _ => rfl
  | v :: r, w, o => by rw [World.setCells, setCells_size r]; simp [World.setCell]
theorem below_setCells {B g : Nat} {w0 : World} (hg : B ≤ g) : ∀ (vs : List Value) (w : World) (o : Nat), Below B w0 w → Below B w0 (w.setCells g o vs)
  | [], _, _, h => h
  | v :: r, _w, _o, h => below_setCells hg r _ _ (h.setCell hg v)
theorem upd_setCells {S : List Nat} {g : Nat} {a : World} (hg : g ∈ S ∨ a.heap.size ≤ g) : ∀ (vs : List Value) (w : World) (o : Nat), Upd S a w → Upd S a (w.setCells g o vs)
  | [], _, _, h => h
  | v :: r, _w, o, h => upd_setCells hg r _ _ (h.setCell (p := ⟨g, o, none⟩) hg v)

section
variable (T TL : TypeId) (sz : Nat) (mk : Nat → List Value) (d B M : Nat)
/-- A block of structs of type T. -/
def SB (w : World) (g : Nat) (cs : Array Value) : Prop := w.heap[g]? = some (.cells cs T (0, 0))
def SK (w w' : World) : Prop := ∀ g cs, SB T w g cs → SB T w' g cs
structure LR where
  p : Option Addr
  n : Nat
  c : Nat
def LR.v (R : LR) : Value := .slice R.p R.n R.c
/-- One list, in a block from B on, below M; its first q elements are marked. -/
def HoldR (w : World) (i : Nat) (R : LR) (q : Nat) : Prop :=
  R.n ≤ 4294967295 ∧ R.n ≤ R.c ∧ ((R.p = none ∧ R.n = 0 ∧ R.c = 0) ∨ ∃ g cs, R.p = some ⟨g, 0, none⟩ ∧ B ≤ g ∧ g < M ∧ SB T w g cs ∧ R.c * sz ≤ cs.size ∧ ∀ j, j < q → j < R.n → At cs (j * sz) (mk i))
/-- All lists from k on; of list i cnt i elements are marked. -/
def Hold (w : World) (rs : List LR) (k : Nat) (cnt : Nat → Nat) : Prop := ∀ (i : Nat) (R : LR), k ≤ i → rs[i]? = some R → HoldR T sz mk B M w i R (cnt i)
def Dist (rs : List LR) : Prop := ∀ (i j : Nat) (Ri Rj : LR) (g : Nat), rs[i]? = some Ri → rs[j]? = some Rj → Ri.p = some ⟨g, 0, none⟩ → Rj.p = some ⟨g, 0, none⟩ → i = j
def cntAt (i j : Nat) : Nat → Nat := fun k => if k < i then 4294967295 else if k = i then j else 0
/-- The lists, in a row. -/
def LRow (w : World) (gl : Nat) (rs : List LR) : Prop := ∃ cl, w.heap[gl]? = some (.cells cl TL (0, 0)) ∧ ∀ (i : Nat) (R : LR), rs[i]? = some R → cl[i]? = some R.v
/-- A list that has i's mark alone. -/
def Ent (w : World) (v : Value) (i : Nat) : Prop := ∃ p n c, v = .slice p n c ∧ n ≤ 8589934592 ∧ n ≤ c ∧ (n = 0 ∨ ∃ g cs, p = some ⟨g, 0, none⟩ ∧ SB T w g cs ∧ ∀ j, j < n → At cs (j * sz) (mk i))
def Ents (w : World) (vals : List Value) : Prop := ∀ (t : Nat) (v : Value), vals[t]? = some v → Ent T sz mk w v (t / d)
/-- Where the lists that were collected lie. -/
def Src (rs : List LR) (vals : List Value) : Prop := ∀ (t g n c : Nat), vals[t]? = some (Value.slice (some ⟨g, 0, none⟩) n c) → M ≤ g ∨ ∃ R : LR, rs[t / d]? = some R ∧ R.p = some ⟨g, 0, none⟩
/-- The list that is grown. -/
def XS (w : World) (p : Option Addr) (n c i : Nat) : Prop :=
  (p = none ∧ n = 0 ∧ c = 0) ∨ ∃ g cs, p = some ⟨g, 0, none⟩ ∧ SB T w g cs ∧ n ≤ c ∧ c * sz ≤ cs.size ∧ ∀ j, j < n → At cs (j * sz) (mk i)
def Share (vals : List Value) (p : Option Addr) (n : Nat) : Prop := ∀ (t g n' c' : Nat), vals[t]? = some (Value.slice (some ⟨g, 0, none⟩) n' c') → p = some ⟨g, 0, none⟩ → n' ≤ n
structure Ph (rs : List LR) (gl : Nat) (w wr : World) (k m : Nat) (al : Value) (vals : List Value) : Prop where
  own : wr.ownsRow M TL 1 al m vals
  ents : Ents T sz mk d wr vals
  src : Src d M rs vals
  rest : Hold T sz mk B M wr rs k (cntAt rs.length 0)
  row : LRow TL wr gl rs
  bel : Below B w wr
  size : M ≤ wr.heap.size
structure Gr (rs : List LR) (wr : World) (k : Nat) (vals : List Value) (p : Option Addr) (n c : Nat) : Prop where
  xs : XS T sz mk wr p n c k
  sh : Share vals p n
  at_ : ∀ g, p = some ⟨g, 0, none⟩ → (B ≤ g ∧ (M ≤ g ∨ ∃ R : LR, rs[k]? = some R ∧ R.p = some ⟨g, 0, none⟩))
end

section
variable {T TL : TypeId} {sz : Nat} {mk : Nat → List Value} {d B M : Nat} {w w' wr w1 : World} {rs : List LR} {gl k m n c i : Nat} {p : Option Addr} {al : Value} {vals : List Value}
theorem SK.of_below (hb : Below w.heap.size w w') : SK T w w' := fun g _ h => (hb.block g (lt_of_block h)).trans h
theorem SK.trans {a b e : World} (h : SK T a b) (h2 : SK T b e) : SK T a e := fun g cs h3 => h2 g cs (h g cs h3)
theorem SK.own {base : Nat} {v : Value} {xs : List Value} {s : Nat} (hT : T ≠ TL) (ho : w.ownsRow base TL s v n xs) (hg : w.grownBy w' v.ownBlock) : SK T w w' := by
  intro g cs h
  refine (hg.block g (lt_of_block h) ?_).trans h
  intro e
  rcases ho.2 with ⟨rfl, _⟩ | ⟨k, cap, cur, rfl, _, hk, _⟩
  · cases e
  · exact ne_of_types h hk hT (Option.some.inj e)
theorem HoldR.keep {R : LR} {q : Nat} (h : HoldR T sz mk B M w i R q) (hk : SK T w w') : HoldR T sz mk B M w' i R q := by
  obtain ⟨h1, h2, h3⟩ := h
  refine ⟨h1, h2, ?_⟩
  rcases h3 with h3 | ⟨g, cs, h3, h4, h5, h6, h7⟩
  · exact .inl h3
  · exact .inr ⟨g, cs, h3, h4, h5, hk g cs h6, h7⟩
theorem HoldR.upM {R : LR} {q M' : Nat} (h : HoldR T sz mk B M w i R q) (hM : M ≤ M') : HoldR T sz mk B M' w i R q := by
  obtain ⟨h1, h2, h3⟩ := h
  refine ⟨h1, h2, ?_⟩
  rcases h3 with h3 | ⟨g, cs, h3, h4, h5, h6, h7⟩
  · exact .inl h3
  · exact .inr ⟨g, cs, h3, h4, by omega, h6, h7⟩
theorem HoldR.more {R : LR} {q q' : Nat} (h : HoldR T sz mk B M w i R q) (hq : q' ≤ q ∨ R.n ≤ q) : HoldR T sz mk B M w i R q' := by
  obtain ⟨h1, h2, h3⟩ := h
  refine ⟨h1, h2, ?_⟩
  rcases h3 with h3 | ⟨g, cs, h3, h4, h5, h6, h7, h8⟩
  · exact .inl h3
  · exact .inr ⟨g, cs, h3, h4, h5, h6, h7, fun j hj hn => h8 j (by omega) hn⟩
theorem Hold.keep {cnt : Nat → Nat} (h : Hold T sz mk B M w rs k cnt) (hk : SK T w w') : Hold T sz mk B M w' rs k cnt := fun i R hi hR => (h i R hi hR).keep hk
theorem Hold.upM {cnt : Nat → Nat} {M' : Nat} (h : Hold T sz mk B M w rs k cnt) (hM : M ≤ M') : Hold T sz mk B M' w rs k cnt := fun i R hi hR => (h i R hi hR).upM hM
theorem Hold.next {j : Nat} (h : Hold T sz mk B M w rs 0 (cntAt i j)) (hj : ∀ R : LR, rs[i]? = some R → R.n ≤ j) : Hold T sz mk B M w rs 0 (cntAt (i + 1) 0) := by
  intro k R hk hR
  refine (h k R hk hR).more ?_
  unfold cntAt
  rcases Nat.lt_trichotomy k i with h1 | h1 | h1
  · left; rw [if_pos (by omega), if_pos h1]; omega
  · right
    subst h1
    rw [if_neg (by omega), if_pos rfl]
    exact hj R hR
  · left
    rw [if_neg (by omega)]
    split <;> omega
theorem Hold.mark {j g : Nat} {R : LR} (hmk : (mk i).length = sz) (h : Hold T sz mk B M w rs 0 (cntAt i j)) (hd : Dist rs) (hR : rs[i]? = some R) (hp : R.p = some ⟨g, 0, none⟩) (hj : j < R.n) : Hold T sz mk B M (w.setCells g (j * sz) (mk i)) rs 0 (cntAt i (j + 1)) := by
  intro k S hk hS
  obtain ⟨h1, h2, h3⟩ := h k S hk hS
  refine ⟨h1, h2, ?_⟩
  rcases h3 with h3 | ⟨q, cs, h3, h4, h5, h6, h7, h8⟩
  · exact .inl h3
  · right
    by_cases hki : k = i
    · subst hki
      rw [hR] at hS
      obtain rfl := Option.some.inj hS
      rw [hp] at h3
      obtain rfl : g = q := by simpa using h3
      have hmul : (j + 1) * sz ≤ R.c * sz := Nat.mul_le_mul_right _ (by omega)
      rw [Nat.add_mul, Nat.one_mul] at hmul
      refine ⟨g, setR cs (j * sz) (mk k), hp, h4, h5, heap_setCells _ _ _ _ h6, by rw [setR_size]; exact h7, fun t ht htn => ?_⟩
      by_cases htj : t = j
      · subst htj
        exact setR_in _ _ _ (by rw [hmk]; omega)
      · refine (h8 t ?_ htn).out ?_
        · unfold cntAt at ht ⊢
          rw [if_neg (by omega), if_pos rfl] at ht ⊢
          omega
        · rw [hmk]
          rcases Nat.lt_or_ge t j with h9 | h9
          · have := Nat.mul_le_mul_right sz (show t + 1 ≤ j by omega)
            rw [Nat.add_mul, Nat.one_mul] at this
            omega
          · have := Nat.mul_le_mul_right sz (show j + 1 ≤ t by omega)
            rw [Nat.add_mul, Nat.one_mul] at this
            omega
    · have hne : q ≠ g := by
        rintro rfl
        exact hki (hd k i S R q hS hR h3 hp)
      refine ⟨q, cs, h3, h4, h5, (heap_setCells_ne hne _ _ _).trans h6, h7, fun t ht htn => h8 t ?_ htn⟩
      unfold cntAt at ht ⊢
      rw [if_neg hki] at ht ⊢
      exact ht
theorem LRow.below (h : LRow TL w gl rs) (hb : Below w.heap.size w w') : LRow TL w' gl rs := by
  obtain ⟨cl, h1, h2⟩ := h
  exact ⟨cl, (hb.block _ (lt_of_block h1)).trans h1, h2⟩
theorem LRow.set {g o : Nat} {cs : Array Value} {vs : List Value} (hT : T ≠ TL) (h : LRow TL w gl rs) (hs : SB T w g cs) : LRow TL (w.setCells g o vs) gl rs := by
  obtain ⟨cl, h1, h2⟩ := h
  exact ⟨cl, (heap_setCells_ne (ne_of_types h1 hs (Ne.symm hT)) _ _ _).trans h1, h2⟩
theorem LRow.own {base s : Nat} {v : Value} {xs : List Value} (h : LRow TL w gl rs) (ho : w.ownsRow base TL s v n xs) (hgl : gl < base) (hg : w.grownBy w' v.ownBlock) : LRow TL w' gl rs := by
  obtain ⟨cl, h1, h2⟩ := h
  refine ⟨cl, (hg.block gl (lt_of_block h1) ?_).trans h1, h2⟩
  intro e
  have := (ho.lt gl e.symm).1
  omega
theorem LRow.cell (h : LRow TL w gl rs) {R : LR} (hR : rs[i]? = some R) : w.cell? ⟨gl, i, none⟩ = some (.slice R.p R.n R.c) := by
  obtain ⟨cl, h1, h2⟩ := h
  rw [cell_in h1, h2 i R hR]
  rfl
theorem LRow.lt (h : LRow TL w gl rs) : gl < w.heap.size := by obtain ⟨_, h1, _⟩ := h; exact lt_of_block h1
theorem Ent.keep {v : Value} (h : Ent T sz mk w v i) (hk : SK T w w') : Ent T sz mk w' v i := by
  obtain ⟨p, n, c, h1, h2, hc, h3⟩ := h
  refine ⟨p, n, c, h1, h2, hc, ?_⟩
  rcases h3 with h3 | ⟨g, cs, h4, h5, h6⟩
  · exact .inl h3
  · exact .inr ⟨g, cs, h4, hk g cs h5, h6⟩
theorem Ents.keep (h : Ents T sz mk d w vals) (hk : SK T w w') : Ents T sz mk d w' vals := fun t v hv => (h t v hv).keep hk
theorem XS.keep (h : XS T sz mk w p n c i) (hk : SK T w w') : XS T sz mk w' p n c i := by
  rcases h with h | ⟨g, cs, h1, h2, h3⟩
  · exact .inl h
  · exact .inr ⟨g, cs, h1, hk g cs h2, h3⟩
theorem XS.le (h : XS T sz mk w p n c i) : n ≤ c := by
  rcases h with ⟨_, h1, h2⟩ | ⟨_, _, _, _, h, _⟩ <;> omega
theorem XS.ent (h : XS T sz mk w p n c i) (hn : n ≤ 8589934592) : Ent T sz mk w (.slice p n c) i := by
  refine ⟨p, n, c, rfl, hn, h.le, ?_⟩
  rcases h with ⟨_, h, _⟩ | ⟨g, cs, h1, h2, _, _, h3⟩
  · exact .inl h
  · exact .inr ⟨g, cs, h1, h2, h3⟩
theorem own_kept {base size : Nat} {e : TypeId} {v : Value} {xs : List Value} (ho : w.ownsRow base e size v n xs) (hb : Below w.heap.size w w') : w'.ownsRow base e size v n xs := (Upd.of_below hb []).row ho (fun _ _ h => by cases h)
theorem own_set {base s g o : Nat} {v : Value} {xs vs : List Value} {cs : Array Value} (hT : T ≠ TL) (ho : w.ownsRow base TL s v n xs) (hs : SB T w g cs) : (w.setCells g o vs).ownsRow base TL s v n xs := by
  refine (upd_setCells (S := [g]) (a := w) (.inl (by simp)) vs w o (Upd.refl _ w)).row ho fun q hq hm => ?_
  obtain rfl : q = g := by simpa using hm
  rcases ho.2 with ⟨rfl, _⟩ | ⟨k, cap, cur, rfl, _, hk, _⟩
  · cases hq
  · exact ne_of_types hs hk hT (Option.some.inj hq).symm
theorem below_none (h : w.grownBy w' none) : Below w.heap.size w w' := ⟨h.os, h.tape, h.output, h.size, fun k hk => h.block k hk (by simp)⟩

/-- The next list is grown. -/
theorem Ph.begin (h : Ph T TL sz mk d B M rs gl w wr k m al vals) {R : LR} (hR : rs[k]? = some R) (hd : Dist rs) (hm : m = d * k) (hvl : vals.length = m) (hd0 : 0 < d) :
    Ph T TL sz mk d B M rs gl w wr (k + 1) m al vals ∧ Gr T sz mk B M rs wr k vals R.p R.n R.c := by
  refine ⟨⟨h.own, h.ents, h.src, fun i S hi hS => h.rest i S (by omega) hS, h.row, h.bel, h.size⟩, ?_⟩
  obtain ⟨h1, h2, h3⟩ := h.rest k R (Nat.le_refl _) hR
  have hk : k < rs.length := lt_get hR
  refine ⟨?_, ?_, ?_⟩
  · rcases h3 with h3 | ⟨g, cs, h3, h4, h5, h6, h7, h8⟩
    · exact .inl h3
    · refine .inr ⟨g, cs, h3, h6, h2, h7, fun j hj => h8 j ?_ hj⟩
      unfold cntAt
      rw [if_pos hk]
      omega
  · intro t g n' c' ht hp
    exfalso
    rcases h3 with ⟨h3, _⟩ | ⟨g', cs, h3, h4, h5, _⟩
    · rw [hp] at h3; cases h3
    · rw [hp] at h3
      obtain rfl : g = g' := by simpa using h3
      rcases h.src t g n' c' ht with h6 | ⟨S, h6, h7⟩
      · omega
      · have h8 := hd _ _ S R g h6 hR h7 hp
        have h9 := lt_get ht
        have : t / d < k := (Nat.div_lt_iff_lt_mul hd0).2 (by rw [Nat.mul_comm]; omega)
        omega
  · intro g hp
    rcases h3 with ⟨h3, _⟩ | ⟨g', cs, h3, h4, h5, _⟩
    · rw [hp] at h3; cases h3
    · rw [hp] at h3
      obtain rfl : g = g' := by simpa using h3
      exact ⟨h4, .inr ⟨R, hR, hp⟩⟩
/-- The list is collected. -/
theorem Ph.push (hT : T ≠ TL) (h : Ph T TL sz mk d B M rs gl w wr (k + 1) m al vals) (hg : Gr T sz mk B M rs wr k vals p n c) {al' : Value} (ho : w1.ownsRow M TL 1 al' (m + 1) (vals ++ [.slice p n c])) (hgr : wr.grownBy w1 al.ownBlock) (hm : m / d = k) (hn : n ≤ 8589934592) (hgl : gl < M) (hBM : B ≤ M) :
    Ph T TL sz mk d B M rs gl w w1 (k + 1) (m + 1) al' (vals ++ [.slice p n c]) ∧ Gr T sz mk B M rs w1 k (vals ++ [.slice p n c]) p n c := by
  have hk : SK T wr w1 := SK.own hT h.own hgr
  have hvl : vals.length = m := by have := h.own.1; simpa using this
  have hsz := hgr.size
  refine ⟨⟨ho, ?_, ?_, h.rest.keep hk, h.row.own h.own hgl hgr, h.bel.grown hgr (by have := h.size; omega) fun q hq => by have := (h.own.lt q hq).1; omega, by have := h.size; omega⟩, hg.xs.keep hk, ?_, hg.at_⟩
  · intro t v hv
    rcases get_snoc hv with hv | ⟨rfl, rfl⟩
    · exact (h.ents t v hv).keep hk
    · rw [hvl, hm]; exact (hg.xs.keep hk).ent hn
  · intro t g n' c' ht
    rcases get_snoc ht with ht | ⟨rfl, he⟩
    · exact h.src t g n' c' ht
    · cases he
      rw [hvl, hm]
      exact (hg.at_ g rfl).2
  · intro t g n' c' ht hp
    rcases get_snoc ht with ht | ⟨rfl, he⟩
    · exact hg.sh t g n' c' ht hp
    · cases he; exact Nat.le_refl _
theorem Ph.below (h : Ph T TL sz mk d B M rs gl w wr k m al vals) (hb : Below wr.heap.size wr w1) (hBM : B ≤ M) : Ph T TL sz mk d B M rs gl w w1 k m al vals :=
  ⟨own_kept h.own hb, h.ents.keep (SK.of_below hb), h.src, h.rest.keep (SK.of_below hb), h.row.below hb, h.bel.trans (hb.mono (by have := h.size; omega)), by have := h.size; have := hb.size; omega⟩
theorem Gr.below (h : Gr T sz mk B M rs wr k vals p n c) (hb : Below wr.heap.size wr w1) : Gr T sz mk B M rs w1 k vals p n c := ⟨h.xs.keep (SK.of_below hb), h.sh, h.at_⟩
/-- The list grows into its room. -/
theorem Ph.room {g : Nat} (hT : T ≠ TL) (hmk : ∀ i, (mk i).length = sz) (hd : Dist rs) (h : Ph T TL sz mk d B M rs gl w wr (k + 1) m al vals) (hg : Gr T sz mk B M rs wr k vals (some ⟨g, 0, none⟩) n c) (hr : n + 1 ≤ c) :
    Ph T TL sz mk d B M rs gl w (wr.setCells g (n * sz) (mk k)) (k + 1) m al vals ∧ Gr T sz mk B M rs (wr.setCells g (n * sz) (mk k)) k vals (some ⟨g, 0, none⟩) (n + 1) c := by
  obtain ⟨cs, hsb, hnc, hcs, hall⟩ : ∃ cs, SB T wr g cs ∧ n ≤ c ∧ c * sz ≤ cs.size ∧ ∀ j, j < n → At cs (j * sz) (mk k) := by
    rcases hg.xs with ⟨h, _⟩ | ⟨g', cs, h1, h2⟩
    · cases h
    · obtain rfl : g = g' := by simpa using h1
      exact ⟨cs, h2⟩
  have hmul : (n + 1) * sz ≤ c * sz := Nat.mul_le_mul_right _ hr
  rw [Nat.add_mul, Nat.one_mul] at hmul
  have hlow : ∀ j, j < n → j * sz + sz ≤ n * sz := fun j hj => by
    have := Nat.mul_le_mul_right sz (show j + 1 ≤ n by omega)
    rw [Nat.add_mul, Nat.one_mul] at this
    exact this
  refine ⟨⟨own_set hT h.own hsb, ?_, h.src, ?_, h.row.set hT hsb, below_setCells (hg.at_ g rfl).1 _ _ _ h.bel, by rw [setCells_size]; exact h.size⟩, ?_, ?_, hg.at_⟩
  · intro t v hv
    obtain ⟨q, n', c', rfl, h2, h3, h4⟩ := h.ents t v hv
    refine ⟨q, n', c', rfl, h2, h3, ?_⟩
    rcases h4 with h4 | ⟨g', cs', rfl, h5, h6⟩
    · exact .inl h4
    · right
      by_cases hgg : g' = g
      · subst hgg
        have hle := hg.sh t g' n' c' hv rfl
        refine ⟨g', _, rfl, heap_setCells _ _ _ _ h5, fun j hj => (h6 j hj).out (.inl ?_)⟩
        rw [hmk]
        exact hlow j (by omega)
      · exact ⟨g', cs', rfl, (heap_setCells_ne hgg _ _ _).trans h5, h6⟩
  · intro i S hi hS
    obtain ⟨h1, h2, h3⟩ := h.rest i S hi hS
    refine ⟨h1, h2, ?_⟩
    rcases h3 with h3 | ⟨q, cs', h3, h4, h5, h6, h7⟩
    · exact .inl h3
    · have hne : q ≠ g := by
        rintro rfl
        rcases (hg.at_ q rfl).2 with h8 | ⟨R, h8, h9⟩
        · omega
        · have := hd _ _ S R q hS h8 h3 h9; omega
      exact .inr ⟨q, cs', h3, h4, h5, (heap_setCells_ne hne _ _ _).trans h6, h7⟩
  · refine .inr ⟨g, _, rfl, heap_setCells _ _ _ _ hsb, hr, by rw [setR_size]; exact hcs, fun j hj => ?_⟩
    by_cases hjn : j = n
    · subst hjn
      exact setR_in _ _ _ (by rw [hmk]; omega)
    · exact (hall j (by omega)).out (.inl (by rw [hmk]; exact hlow j (by omega)))
  · intro t q n' c' ht hp
    have := hg.sh t q n' c' ht hp
    omega
/-- The list grows into a new block. -/
theorem Gr.grow {base : Nat} {v : Value} {olds : List Value} (hmk : ∀ i, (mk i).length = sz) (_hs0 : 0 < sz) (hg : Gr T sz mk B M rs wr k vals p n c) (he : Ents T sz mk d wr vals) (ho : w1.ownsRow base T sz v (n + 1) (olds ++ mk k)) (hbase : wr.heap.size ≤ base) (hM : M ≤ wr.heap.size) (hBM : B ≤ M) (hl : olds.length = n * sz)
    (ha : ∀ j, j < n → ∀ (i : Nat) u, (mk k)[i]? = some u → olds[j * sz + i]? = some u) : ∃ g c', v = .slice (some ⟨g, 0, none⟩) (n + 1) c' ∧ Gr T sz mk B M rs w1 k vals (some ⟨g, 0, none⟩) (n + 1) c' := by
  rcases ho.2 with ⟨_, h0⟩ | ⟨g, cap, cur, rfl, hgb, hb, hnc, hcm, hcs, htake⟩
  · omega
  · refine ⟨g, cap, rfl, .inr ⟨g, cur, rfl, hb, hnc, by omega, fun j hj i u hu => ?_⟩, ?_, ?_⟩
    · have hi := lt_get hu
      rw [hmk] at hi
      have hlow : j * sz + sz ≤ (n + 1) * sz := by
        have := Nat.mul_le_mul_right sz (show j + 1 ≤ n + 1 by omega)
        rw [Nat.add_mul, Nat.one_mul] at this
        exact this
      have h1 : (olds ++ mk k)[j * sz + i]? = some u := by
        rcases Nat.lt_or_ge j n with h | h
        · have hj2 : j * sz + sz ≤ n * sz := by
            have := Nat.mul_le_mul_right sz (show j + 1 ≤ n by omega)
            rw [Nat.add_mul, Nat.one_mul] at this
            exact this
          rw [List.getElem?_append_left (by omega)]
          exact ha j h i u hu
        · obtain rfl : j = n := by omega
          rw [List.getElem?_append_right (by omega), hl, show j * sz + i - j * sz = i by omega]
          exact hu
      rw [← htake, List.getElem?_take_of_lt (by omega)] at h1
      rwa [Array.getElem?_toList] at h1
    · intro t q n' c' ht hp
      obtain rfl : g = q := by simpa using hp
      obtain ⟨p', m', d', hev, _, _, h3⟩ := he t _ ht
      cases hev
      rcases h3 with h3 | ⟨q, cs, hq, h5, _⟩
      · omega
      · obtain rfl : g = q := by simpa using hq
        have := lt_of_block h5
        omega
    · intro q hq
      obtain rfl : g = q := by simpa using hq
      exact ⟨by omega, .inl (by omega)⟩
/-- The cells of the list that is grown. -/
theorem XS.olds (hmk : ∀ i, (mk i).length = sz) (_hs0 : 0 < sz) (h : XS T sz mk w p n c k) : ∃ olds : List Value, olds.length = n * sz ∧ (∀ j, j < n → ∀ (i : Nat) u, (mk k)[i]? = some u → olds[j * sz + i]? = some u) ∧ (∀ b, p = some b → ∀ j u, olds[j]? = some u → w.cell? (b.add j) = some u) ∧ (p = none → n = 0 ∧ c = 0) := by
  rcases h with ⟨h1, h2, h3⟩ | ⟨g, cs, h1, h2, h3, h4, h5⟩
  · exact ⟨[], by simp [h2], fun j hj => by omega, fun b hb j u hj => by simp at hj, fun _ => ⟨h2, h3⟩⟩
  · have hle : n * sz ≤ c * sz := Nat.mul_le_mul_right _ h3
    refine ⟨cs.toList.take (n * sz), by simp; omega, fun j hj i u hu => ?_, fun b hb j u hj => ?_, fun hp => by rw [hp] at h1; cases h1⟩
    · have hi := lt_get hu
      rw [hmk] at hi
      have := Nat.mul_le_mul_right sz (show j + 1 ≤ n by omega)
      rw [Nat.add_mul, Nat.one_mul] at this
      rw [List.getElem?_take_of_lt (by omega), Array.getElem?_toList]
      exact h5 j hj i u hu
    · rw [h1] at hb
      obtain rfl := Option.some.inj hb
      rw [addN, Nat.zero_add, cell_in h2]
      have := lt_get hj
      simp at this
      rw [List.getElem?_take_of_lt (by omega), Array.getElem?_toList] at hj
      exact hj
/-- An element of the list that was collected. -/
theorem Ent.cells {_v : Value} {g : Nat} (h : Ent T sz mk w (.slice (some ⟨g, 0, none⟩) n c) i) {j : Nat} (hj : j < n) : ∃ cs, SB T w g cs ∧ At cs (j * sz) (mk i) := by
  obtain ⟨p', n', c', he, _, _, h3⟩ := h
  cases he
  rcases h3 with h3 | ⟨g', cs, hg, h5, h6⟩
  · omega
  · obtain rfl : g = g' := by simpa using hg
    exact ⟨cs, h5, h6 j hj⟩
end
end Go.Proofs.Ythjcifokmcbaoaa.ls
/- Laws on memory for any program: a slice that reads as a list of structs of k cells each, and one that lies in memory of its own. No program in sight; no conditions beside those stated. -/
namespace Go.Proofs.Ythjcifokmcbaoaa.rw
open Go.RowKit ls

section
variable {α : Type} (enc : α → List Value) (k : Nat)
def flat (l : List α) : List Value := l.flatMap enc
variable {enc k}
theorem flat_len (hk : ∀ x, (enc x).length = k) : ∀ l : List α, (flat enc l).length = l.length * k
  | [] => by simp [flat]
  | x :: r => by
    have := flat_len hk r
    simp only [flat, List.flatMap_cons, List.length_append, List.length_cons] at this ⊢
    rw [this, hk, Nat.succ_mul]
    omega
theorem flat_at (hk : ∀ x, (enc x).length = k) : ∀ (l : List α) (j : Nat) (x : α) (i : Nat) (v : Value), l[j]? = some x → (enc x)[i]? = some v → (flat enc l)[j * k + i]? = some v
  | [], j, x, i, v, h, _ => by simp at h
  | y :: r, 0, x, i, v, h, hv => by
    simp at h
    subst h
    have hi := lt_get hv
    simp only [flat, List.flatMap_cons]
    rw [List.getElem?_append_left (by omega)]
    simpa using hv
  | y :: r, j + 1, x, i, v, h, hv => by
    have := flat_at hk r j x i v (by simpa using h) hv
    simp only [flat, List.flatMap_cons]
    have e : (j + 1) * k = j * k + k := Nat.succ_mul j k
    rw [List.getElem?_append_right (by rw [hk]; omega), hk, ← this]
    simp only [flat]
    congr 1
    omega
theorem flat_snoc (l : List α) (x : α) : flat enc (l ++ [x]) = flat enc l ++ enc x := by simp [flat]
theorem flat_append (l m : List α) : flat enc (l ++ m) = flat enc l ++ flat enc m := by simp [flat]
theorem flat_one (h1 : ∀ x, ∀ v ∈ enc x, v.oneCell' = true) (l : List α) : ∀ v ∈ flat enc l, v.oneCell' = true := by
  intro v hv
  obtain ⟨x, _, hx⟩ := List.mem_flatMap.1 hv
  exact h1 x v hx

variable (enc k)
/-- A slice reads as a list. -/
def Rw (w : World) (v : Value) (l : List α) : Prop :=
  ∃ (p : Option Addr) (c : Nat), v = .slice p l.length c ∧ l.length ≤ c ∧ (l = [] ∨ ∃ b o, p = some ⟨b, o, none⟩ ∧ b < w.heap.size ∧ ∀ (j : Nat) (x : α), l[j]? = some x → ∀ (i : Nat) (u : Value), (enc x)[i]? = some u → w.cell? ⟨b, o + (j * k + i), none⟩ = some u)
variable {enc k}
theorem Rw.later {w w' : World} {v : Value} {l : List α} (h : Rw enc k w v l) (hb : Below w.heap.size w w') : Rw enc k w' v l := by
  obtain ⟨p, c, rfl, hc, h⟩ := h
  refine ⟨p, c, rfl, hc, ?_⟩
  rcases h with h | ⟨b, o, rfl, hlt, hat⟩
  · exact .inl h
  · exact .inr ⟨b, o, rfl, by have := hb.size; omega, fun j x hx i u hu => (hb.cell (p := ⟨b, o + (j * k + i), none⟩) hlt).trans (hat j x hx i u hu)⟩
theorem Rw.upd {w w' : World} {S : List Nat} {v : Value} {l : List α} (h : Rw enc k w v l) (hu : Upd S w w') (hn : ∀ g, v.ownBlock = some g → g ∉ S) : Rw enc k w' v l := by
  obtain ⟨p, c, rfl, hc, h⟩ := h
  refine ⟨p, c, rfl, hc, ?_⟩
  rcases h with h | ⟨b, o, rfl, hlt, hat⟩
  · exact .inl h
  · exact .inr ⟨b, o, rfl, by have := hu.size; omega, fun j x hx i u hu' => (hu.cell (p := ⟨b, o + (j * k + i), none⟩) hlt (hn b rfl)).trans (hat j x hx i u hu')⟩
theorem Rw.cell {w : World} {b o n c : Nat} {l : List α} (h : Rw enc k w (.slice (some ⟨b, o, none⟩) n c) l) {j : Nat} {x : α} (hx : l[j]? = some x) {i : Nat} {u : Value} (hu : (enc x)[i]? = some u) : w.cell? ⟨b, o + (j * k + i), none⟩ = some u := by
  obtain ⟨p, c', he, hc, h⟩ := h
  cases he
  rcases h with rfl | ⟨b', o', hp, hlt, hat⟩
  · simp at hx
  · cases hp
    exact hat j x hx i u hu
theorem Rw.ptr {w : World} {p : Option Addr} {n c : Nat} {l : List α} (h : Rw enc k w (.slice p n c) l) : l.length = n ∧ n ≤ c ∧ (0 < n → ∃ b o, p = some ⟨b, o, none⟩ ∧ b < w.heap.size) := by
  obtain ⟨p', c', he, hc, h⟩ := h
  cases he
  refine ⟨rfl, hc, fun hn => ?_⟩
  rcases h with rfl | ⟨b, o, hp, hlt, _⟩
  · simp at hn
  · exact ⟨b, o, hp, hlt⟩
theorem Rw.form {w : World} {v : Value} {l : List α} (h : Rw enc k w v l) : ∃ p c, v = .slice p l.length c := by
  obtain ⟨p, c, rfl, _⟩ := h
  exact ⟨p, c, rfl⟩
/-- The first of them. -/
theorem Rw.take {w : World} {p : Option Addr} {n c m : Nat} {l : List α} (h : Rw enc k w (.slice p n c) l) (hm : m ≤ n) : Rw enc k w (.slice p m c) (l.take m) := by
  obtain ⟨h1, h2, _⟩ := h.ptr
  obtain ⟨p', c', he, hc, h⟩ := h
  cases he
  refine ⟨p, c, by rw [List.length_take, Nat.min_eq_left hm], by rw [List.length_take]; omega, ?_⟩
  rcases h with rfl | ⟨b, o, rfl, hlt, hat⟩
  · exact .inl (by simp)
  · refine .inr ⟨b, o, rfl, hlt, fun j x hx => hat j x ?_⟩
    rw [List.getElem?_take] at hx
    split at hx
    · exact hx
    · cases hx
theorem rw_nil (w : World) (p : Option Addr) (c : Nat) : Rw enc k w (.slice p 0 c) [] := ⟨p, c, rfl, by simp, .inl rfl⟩
theorem own_rw (hk : ∀ x, (enc x).length = k) {T : TypeId} {w : World} {Bs n : Nat} {v : Value} {l : List α} (hk0 : 0 < k) (h : w.ownsRow Bs T k v n (flat enc l)) : Rw enc k w v l := by
  have hl : l.length = n := by
    have := h.1
    rw [flat_len hk] at this
    exact Nat.eq_of_mul_eq_mul_right hk0 this
  rcases h.2 with ⟨rfl, h0⟩ | ⟨g, cap, cur, rfl, hg, hb, hnc, _⟩
  · subst h0
    exact ⟨none, 0, by rw [hl], by omega, .inl (List.eq_nil_of_length_eq_zero hl)⟩
  · subst hl
    refine ⟨_, cap, rfl, hnc, .inr ⟨g, 0, rfl, lt_of_block hb, fun j x hx i u hu => ?_⟩⟩
    have := h.cells (g := g) rfl (j * k + i) u (flat_at hk l j x i u hx hu)
    rwa [addN] at this
theorem own_len (hk : ∀ x, (enc x).length = k) {T : TypeId} {w : World} {Bs n : Nat} {v : Value} {l : List α} (hk0 : 0 < k) (h : w.ownsRow Bs T k v n (flat enc l)) : l.length = n := by
  have := h.1
  rw [flat_len hk] at this
  exact Nat.eq_of_mul_eq_mul_right hk0 this
variable (enc k)
/-- A list of its own, from block M on; an empty one may lie anywhere, if it has no room. -/
def NewRw (T : TypeId) (M : Nat) (w : World) (v : Value) (l : List α) : Prop :=
  (l = [] ∧ v = .slice none 0 0) ∨ ∃ g c cs, v = .slice (some ⟨g, 0, none⟩) l.length c ∧ l.length ≤ c ∧ M ≤ g ∧ w.heap[g]? = some (.cells cs T (0, 0)) ∧ c * k ≤ cs.size ∧ At cs 0 (flat enc l)
variable {enc k}
theorem own_new (hk : ∀ x, (enc x).length = k) {T : TypeId} {w : World} {Bs n : Nat} {v : Value} {l : List α} (hk0 : 0 < k) (h : w.ownsRow Bs T k v n (flat enc l)) : NewRw enc k T Bs w v l := by
  have hl := own_len hk hk0 h
  rcases h.2 with ⟨rfl, h0⟩ | ⟨g, cap, cur, rfl, hg, hb, hnc, hcm, hcs, htake⟩
  · subst h0
    exact .inl ⟨List.eq_nil_of_length_eq_zero hl, rfl⟩
  · subst hl
    refine .inr ⟨g, cap, cur, rfl, hnc, hg, hb, by omega, fun i v hv => ?_⟩
    have hi := lt_get hv
    rw [flat_len hk] at hi
    rw [← htake, List.getElem?_take_of_lt (by omega)] at hv
    rw [Array.getElem?_toList] at hv
    rwa [Nat.zero_add]
theorem NewRw.rw (hk : ∀ x, (enc x).length = k) {T : TypeId} {M : Nat} {w : World} {v : Value} {l : List α} (h : NewRw enc k T M w v l) : Rw enc k w v l := by
  rcases h with ⟨rfl, rfl⟩ | ⟨g, c, cs, rfl, hc, _, hb, _, hat⟩
  · exact ⟨none, 0, rfl, by simp, .inl rfl⟩
  · refine ⟨_, c, rfl, hc, .inr ⟨g, 0, rfl, lt_of_block hb, fun j x hx i u hu => ?_⟩⟩
    rw [cell_in hb]
    exact hat (j * k + i) u (flat_at hk l j x i u hx hu)
theorem NewRw.later {T : TypeId} {M : Nat} {w w' : World} {v : Value} {l : List α} (h : NewRw enc k T M w v l) (hb : Below w.heap.size w w') : NewRw enc k T M w' v l := by
  rcases h with h | ⟨g, c, cs, rfl, hc, hg, hbk, h2⟩
  · exact .inl h
  · exact .inr ⟨g, c, cs, rfl, hc, hg, (hb.block g (lt_of_block hbk)).trans hbk, h2⟩
theorem NewRw.mono {T : TypeId} {M M' : Nat} {w : World} {v : Value} {l : List α} (h : NewRw enc k T M w v l) (hM : M' ≤ M) : NewRw enc k T M' w v l := by
  rcases h with h | ⟨g, c, cs, h1, h2, h3, h4⟩
  · exact .inl h
  · exact .inr ⟨g, c, cs, h1, h2, by omega, h4⟩
theorem NewRw.keep {T : TypeId} {M : Nat} {w w' : World} {v : Value} {l : List α} (h : NewRw enc k T M w v l) (hk : SK T w w') : NewRw enc k T M w' v l := by
  rcases h with h | ⟨g, c, cs, h1, h2, h3, h4, h5⟩
  · exact .inl h
  · exact .inr ⟨g, c, cs, h1, h2, h3, hk g cs h4, h5⟩
theorem NewRw.form {T : TypeId} {M : Nat} {w : World} {v : Value} {l : List α} (h : NewRw enc k T M w v l) : ∃ p c, v = .slice p l.length c := by
  rcases h with ⟨rfl, rfl⟩ | ⟨g, c, cs, rfl, _⟩
  · exact ⟨none, 0, rfl⟩
  · exact ⟨_, c, rfl⟩
/-- The same without the room behind it. -/
theorem NewRw.clip {T : TypeId} {M : Nat} {w : World} {p : Option Addr} {n c : Nat} {l : List α} (h : NewRw enc k T M w (.slice p n c) l) : NewRw enc k T M w (.slice p n n) l := by
  rcases h with ⟨rfl, he⟩ | ⟨g, c', cs, he, h2, h3, h4, h5, h6⟩
  · cases he
    exact .inl ⟨rfl, rfl⟩
  · cases he
    exact .inr ⟨g, _, cs, rfl, Nat.le_refl _, h3, h4, Nat.le_trans (Nat.mul_le_mul_right k h2) h5, h6⟩
/-- A block that was laid whole. -/
theorem rw_lit (hk : ∀ x, (enc x).length = k) {T : TypeId} {w : World} {blk : Nat} {l : List α} {cs : Array Value} (h : w.heap[blk]? = some (.cells cs T (0, 0))) (hc : cs.toList = flat enc l) : Rw enc k w (.slice (some ⟨blk, 0, none⟩) l.length l.length) l := by
  refine ⟨_, _, rfl, Nat.le_refl _, .inr ⟨blk, 0, rfl, lt_of_block h, fun j x hx i u hu => ?_⟩⟩
  rw [cell_in h, Nat.zero_add, ← Array.getElem?_toList, hc]
  exact flat_at hk l j x i u hx hu
end
end Go.Proofs.Ythjcifokmcbaoaa.rw
/- What the listed tables of package glyph hold, as a fact on a world; the class of a byte as a plain function; glyph.class, glyph.Class, Count and the reference's Class and Count return it. Conditions: the two tables hold what the program's text lays. -/
namespace Go.Proofs.Ythjcifokmcbaoaa.gl
open Go.ChangeShapes Go.WideShapes Go.ChangeAt Go.RowKit

/-- The class of a byte (of any number). -/
def cls (b : Int) : Int :=
  if 97 ≤ b ∧ b ≤ 122 then 1 else if 65 ≤ b ∧ b ≤ 90 then 2 else if 48 ≤ b ∧ b ≤ 57 then 3 else if b = 32 ∨ b = 9 then 4 else if b = 10 ∨ b = 13 then 6 else if 33 ≤ b ∧ b ≤ 126 then 5 else 0

def lettersL : List Value := [.int .u8 97, .int .u8 122, .int .i64 1, .int .u8 65, .int .u8 90, .int .i64 2, .int .u8 48, .int .u8 57, .int .i64 3]
def othersL : List Value := [.int .u8 32, .int .u8 32, .int .i64 4, .int .u8 9, .int .u8 9, .int .i64 4, .int .u8 10, .int .u8 10, .int .i64 6, .int .u8 13, .int .u8 13, .int .i64 6,
  .int .u8 33, .int .u8 47, .int .i64 5, .int .u8 58, .int .u8 64, .int .i64 5, .int .u8 91, .int .u8 96, .int .i64 5, .int .u8 123, .int .u8 126, .int .i64 5]

theorem ret_int {k : IntKind} {a b : Int} (h : b = a) : Ending.returned (.int k a) = .returned (.int k b) := by rw [h]

def OutL (k : Nat) (c : Int) : Prop := (1 ≤ k → ¬ (97 ≤ c ∧ c ≤ 122)) ∧ (2 ≤ k → ¬ (65 ≤ c ∧ c ≤ 90)) ∧ (3 ≤ k → ¬ (48 ≤ c ∧ c ≤ 57))
def OutO (k : Nat) (c : Int) : Prop := (1 ≤ k → ¬ (32 ≤ c ∧ c ≤ 32)) ∧ (2 ≤ k → ¬ (9 ≤ c ∧ c ≤ 9)) ∧ (3 ≤ k → ¬ (10 ≤ c ∧ c ≤ 10)) ∧ (4 ≤ k → ¬ (13 ≤ c ∧ c ≤ 13)) ∧ (5 ≤ k → ¬ (33 ≤ c ∧ c ≤ 47)) ∧ (6 ≤ k → ¬ (58 ≤ c ∧ c ≤ 64)) ∧ (7 ≤ k → ¬ (91 ≤ c ∧ c ≤ 96)) ∧ (8 ≤ k → ¬ (123 ≤ c ∧ c ≤ 126))
end Go.Proofs.Ythjcifokmcbaoaa.gl
/- glyph.Class, glyph.Count and the reference's Class and Count return one function of numbers. Conditions: the two tables hold what the program's text lays. -/
namespace Go.Proofs.Ythjcifokmcbaoaa.gl
open Go.ChangeShapes Go.WideShapes Go.ChangeAt Go.RowKit

theorem cls_low (b : Int) (h : b < 0) : cls b = 0 := by unfold cls; repeat (first | rfl | rw [if_pos (by omega)] | rw [if_neg (by omega)])
theorem cls_high (b : Int) (h : 127 ≤ b) : cls b = 0 := by unfold cls; repeat (first | rfl | rw [if_pos (by omega)] | rw [if_neg (by omega)])

/-- How many of the numbers below k are of a class. -/
def cnt (of : Int) : Nat → Nat
  | 0 => 0
  | k + 1 => if cls k = of then cnt of k + 1 else cnt of k
theorem cnt_le (of : Int) (k : Nat) : cnt of k ≤ k := by
  induction k with
  | zero => exact Nat.le_refl _
  | succ k ih => unfold cnt; split <;> omega

end Go.Proofs.Ythjcifokmcbaoaa.gl
/- Laws on memory for any program: bytes of a string laid as a row, a row of bytes read as a string, appends to a row of bytes that the call owns. No program in sight; no conditions beside those that each theorem states. -/
namespace Go.Proofs.Ythjcifokmcbaoaa
open Go.RowKit

theorem ret_int' {k : IntKind} {a b : Int} (h : b = a) : Ending.returned (.int k a) = .returned (.int k b) := by rw [h]
theorem ret_bool {a b : Bool} (h : b = a) : Ending.returned (.bool a) = .returned (.bool b) := by rw [h]
theorem ret_str {a b : ByteArray} (h : b = a) : Ending.returned (.string a) = .returned (.string b) := by rw [h]

/-- A string of bytes as cells. -/
def bv (l : List UInt8) : List Value := l.map fun b => .int .u8 (b.toNat : Int)
theorem bv_length (l : List UInt8) : (bv l).length = l.length := by simp [bv]
theorem bv_append (a b : List UInt8) : bv (a ++ b) = bv a ++ bv b := by simp [bv]
theorem bv_get (l : List UInt8) (j : Nat) : (bv l)[j]? = l[j]?.map fun b => Value.int .u8 (b.toNat : Int) := by simp [bv]
theorem bv_one (l : List UInt8) : ∀ u ∈ bv l, u.oneCell' = true := by
  intro u hu
  simp only [bv, List.mem_map] at hu
  obtain ⟨b, _, rfl⟩ := hu
  rfl

/-- A string's byte at a place, as a letter. -/
theorem byteAt (s : ByteArray) (k : Nat) (h : k < s.size) : ∃ b : UInt8, s.data.toList[k]? = some b ∧ (∀ h' : k < s.size, ((s[k]'h').toNat : Int) = (b.toNat : Int)) ∧ (0 : Int) ≤ (b.toNat : Int) ∧ (b.toNat : Int) ≤ 255 :=
  ⟨s[k], by
    have : s.data.toList[k]? = some (s.data[k]'h) := by simp [h]
    exact this, fun _ => rfl, by omega, by have := (s[k]).toNat_lt; omega⟩

/-- The bytes l lie at the head of block g, and may be written. -/
structure Lies (w : World) (g : Nat) (l : List UInt8) : Prop where
  cell : ∀ j b, l[j]? = some b → w.cell? ⟨g, j, none⟩ = some (.int .u8 (b.toNat : Int))
  free : ∀ j, j < l.length → w.frozen? ⟨g, j, none⟩ = false

theorem Lies.below {w w' : World} {g B : Nat} {l : List UInt8} (h : Lies w g l) (hb : Below B w w') (hg : g < B) : Lies w' g l :=
  ⟨fun j b hj => (hb.cell (p := ⟨g, j, none⟩) hg).trans (h.cell j b hj), fun j hj => (hb.frozen (p := ⟨g, j, none⟩) hg).trans (h.free j hj)⟩
theorem Lies.grown {w w' : World} {g : Nat} {row : Option Nat} {l : List UInt8} (h : Lies w g l) (hb : w.grownBy w' row) (hg : g < w.heap.size) (hr : some g ≠ row) : Lies w' g l :=
  ⟨fun j b hj => (World.cell?_of_block (hb.block g hg hr)).trans (h.cell j b hj), fun j hj => (World.frozen?_of_block (hb.block g hg hr)).trans (h.free j hj)⟩

section
variable {P : Program}

/-- '[]byte(s)': the bytes lie in a new block. -/
theorem wpList_bytes_of_string {ops : Array Oper} {rest : List Oper} {o : Oper} {a : Act} {w : World} {Q : Exit → Act → World → Prop} (hgd : o.guard = none) (src dst e : TypeId) (x : Operand) (ho : o.op = .convert src dst x)
    (s : ByteArray) (hx : a.eval x = .string s) (hs : P.underlying src = some .string) (hd : P.underlying dst = some (.slice e)) (he : P.underlying e = some (.int .u8))
    (h : ∀ (cap : Nat) (w1 : World), Lies w1 w.heap.size s.data.toList → Below w.heap.size w w1 → w.heap.size < w1.heap.size → s.size ≤ cap → wpList P ops Q rest (a.put o.dst (.slice (some ⟨w.heap.size, 0, none⟩) s.size cap)) w1) :
    wpList P ops Q (o :: rest) a w := by
  refine wpList_plain hgd fun K hK => ?_
  unfold Oper.wp execOp
  simp only [ho, hx, Sem.run_bind, Sem.run_pure, Result.andThen_ok, run_bytes_of_string w src dst e s hs hd he]
  refine hK _ _ (h _ _ ⟨fun j b hj => ?_, fun j hj => ?_⟩ ((Below.refl _ _).drew.alloc (Nat.le_refl _) _) (by simp) (grownCap_ge w s.size 0 e))
  · have hlt : j < s.data.size := by
      rcases Nat.lt_or_ge j s.data.size with h1 | h1
      · exact h1
      · rw [List.getElem?_eq_none (by simpa using h1)] at hj; cases hj
    have hb : s.data[j] = b := by
      have : s.data.toList[j]? = some s.data[j] := by simp
      rw [this] at hj
      exact Option.some.inj hj
    have hc := World.cell?_alloc_mark w.drew (bytesRow s (grownCap w s.size 0 e)) e ((bytesRow s (grownCap w s.size 0 e)).size, (bytesRow s (grownCap w s.size 0 e)).size + 1) j
    rw [bytesRow_at s _ j hlt, hb] at hc
    exact hc
  · have hf := World.frozen?_alloc_mark w.drew (bytesRow s (grownCap w s.size 0 e)) e (bytesRow s (grownCap w s.size 0 e)).size ((bytesRow s (grownCap w s.size 0 e)).size + 1) j
    have hlt : j < (bytesRow s (grownCap w s.size 0 e)).size := by
      simp [bytesRow] at hj ⊢
      omega
    rw [show (decide ((bytesRow s (grownCap w s.size 0 e)).size ≤ j) && decide (j < (bytesRow s (grownCap w s.size 0 e)).size + 1)) = false from by simp; omega] at hf
    exact hf

/-- 'string(b)', b's bytes lying at a block's head. -/
theorem run_string_of_lies (w : World) (src e dst : TypeId) (hs : P.underlying src = some (.slice e)) (he : P.underlying e = some (.int .u8)) (hd : P.underlying dst = some .string) (g cap : Nat) (l : List UInt8) (hl : ∀ j b, l[j]? = some b → w.cell? ⟨g, j, none⟩ = some (.int .u8 (b.toNat : Int))) :
    (convert src dst (.slice (some ⟨g, 0, none⟩) l.length cap)).run P w = .ok (.string ⟨l.toArray⟩) w := by
  refine run_convert_bytes_back w src dst e ⟨g, 0, none⟩ cap l hs he hd fun j hj => ?_
  have hadd : (⟨g, 0, none⟩ : Addr).add j = ⟨g, j, none⟩ := by unfold Addr.add; split <;> simp_all
  rw [hadd]
  exact hl j l[j] (List.getElem?_eq_getElem hj)

theorem wpList_string_of_lies {ops : Array Oper} {rest : List Oper} {o : Oper} {a : Act} {w : World} {Q : Exit → Act → World → Prop} (hgd : o.guard = none) (src dst e : TypeId) (x : Operand) (ho : o.op = .convert src dst x)
    (g n cap : Nat) (l : List UInt8) (hn : l.length = n) (hx : a.eval x = .slice (some ⟨g, 0, none⟩) n cap) (hs : P.underlying src = some (.slice e)) (he : P.underlying e = some (.int .u8)) (hd : P.underlying dst = some .string)
    (hl : ∀ j b, l[j]? = some b → w.cell? ⟨g, j, none⟩ = some (.int .u8 (b.toNat : Int)))
    (h : wpList P ops Q rest (a.put o.dst (.string ⟨l.toArray⟩)) w) : wpList P ops Q (o :: rest) a w := by
  subst hn
  refine wpList_plain hgd fun K hK => ?_
  unfold Oper.wp execOp
  simp only [ho, hx, Sem.run_bind, Sem.run_pure, Result.andThen_ok, run_string_of_lies w src e dst hs he hd g cap l hl]
  exact hK _ _ h

/-- The same of a row of bytes that the call owns, nil too. -/
theorem run_string_of_own (w : World) (src e dst : TypeId) (hs : P.underlying src = some (.slice e)) (he : P.underlying e = some (.int .u8)) (hd : P.underlying dst = some .string) (base n : Nat) (v : Value) (l : List UInt8) (hown : w.ownsRow base e 1 v n (bv l)) :
    (convert src dst v).run P w = .ok (.string ⟨l.toArray⟩) w := by
  have hlen : l.length = n := by have := hown.1; rw [bv_length] at this; omega
  rcases hown.2 with ⟨rfl, rfl⟩ | ⟨g, cap, cur, rfl, _⟩
  · rw [run_convert_bytes_nil w src e hs he 0 0 dst hd]
    obtain rfl : l = [] := List.eq_nil_of_length_eq_zero hlen
    rfl
  · subst hlen
    refine run_string_of_lies w src e dst hs he hd g cap l fun j b hj => ?_
    have hc := hown.cells (g := g) rfl j (.int .u8 (b.toNat : Int)) (by rw [bv_get, hj]; rfl)
    rwa [show (⟨g, 0, none⟩ : Addr).add j = ⟨g, j, none⟩ from by unfold Addr.add; split <;> simp_all] at hc

theorem wpList_string_of_own {ops : Array Oper} {rest : List Oper} {o : Oper} {a : Act} {w : World} {Q : Exit → Act → World → Prop} (hgd : o.guard = none) (src dst e : TypeId) (x : Operand) (ho : o.op = .convert src dst x)
    (base n : Nat) (v : Value) (l : List UInt8) (hx : a.eval x = v) (hown : w.ownsRow base e 1 v n (bv l)) (hs : P.underlying src = some (.slice e)) (he : P.underlying e = some (.int .u8)) (hd : P.underlying dst = some .string)
    (h : wpList P ops Q rest (a.put o.dst (.string ⟨l.toArray⟩)) w) : wpList P ops Q (o :: rest) a w := by
  refine wpList_plain hgd fun K hK => ?_
  unfold Oper.wp execOp
  simp only [ho, hx, Sem.run_bind, Sem.run_pure, Result.andThen_ok, run_string_of_own w src e dst hs he hd base n v l hown]
  exact hK _ _ h
end
end Go.Proofs.Ythjcifokmcbaoaa
/- The parts of names: a plain function of bytes, and the reference's part, which returns it. No conditions. -/
namespace Go.Proofs.Ythjcifokmcbaoaa.gl
open Go.ChangeShapes Go.WideShapes Go.ChangeAt Go.RowKit

/-- A part of a name. -/
def partL : List UInt8 → Bool
  | [] => false
  | c :: r => decide (cls c.toNat = 1) && r.all fun b => decide (cls b.toNat = 1 ∨ cls b.toNat = 3)
/-- The first k bytes do. -/
def partTo (l : List UInt8) (k : Nat) : Prop := ∀ j b, j < k → l[j]? = some b → (cls b.toNat = 1 ∨ (j ≠ 0 ∧ cls b.toNat = 3))
theorem partTo_zero (l : List UInt8) : partTo l 0 := fun j b h => by omega
theorem partTo_succ {l : List UInt8} {k : Nat} {b : UInt8} (h : partTo l k) (hb : l[k]? = some b) (hc : cls b.toNat = 1 ∨ (k ≠ 0 ∧ cls b.toNat = 3)) : partTo l (k + 1) := by
  intro j c hj hc'
  rcases Nat.lt_or_ge j k with h1 | h1
  · exact h j c h1 hc'
  · obtain rfl : j = k := by omega
    rw [hb] at hc'
    obtain rfl := Option.some.inj hc'
    exact hc
theorem part_bad {l : List UInt8} {k : Nat} {b : UInt8} (hb : l[k]? = some b) (h1 : cls b.toNat ≠ 1) (h2 : k = 0 ∨ cls b.toNat ≠ 3) : partL l = false := by
  cases l with
  | nil => rfl
  | cons c r =>
    cases k with
    | zero =>
      simp at hb
      subst hb
      simp [partL, h1]
    | succ k =>
      have hm : b ∈ r := List.mem_of_getElem? (by simpa using hb)
      have h3 : cls b.toNat ≠ 3 := by rcases h2 with h2 | h2; omega; exact h2
      have : (r.all fun b => decide (cls b.toNat = 1 ∨ cls b.toNat = 3)) = false := by
        rw [List.all_eq_false]
        exact ⟨b, hm, by simp [h1, h3]⟩
      simp only [partL, this, Bool.and_false]
theorem part_end {l : List UInt8} (h : partTo l l.length) : partL l = !l.isEmpty := by
  cases l with
  | nil => rfl
  | cons c r =>
    have h0 := h 0 c (by simp) rfl
    have h1 : cls c.toNat = 1 := by rcases h0 with h0 | h0; exact h0; omega
    have h2 : (r.all fun b => decide (cls b.toNat = 1 ∨ cls b.toNat = 3)) = true := by
      rw [List.all_eq_true]
      intro b hb
      obtain ⟨j, hj⟩ := List.mem_iff_getElem?.1 hb
      have hlt : j < r.length := by
        rcases Nat.lt_or_ge j r.length with h | h
        · exact h
        · rw [List.getElem?_eq_none h] at hj; cases hj
      have := h (j + 1) b (by simp; omega) (by simpa using hj)
      simp
      omega
    simp only [partL, h1, h2]
    rfl

end Go.Proofs.Ythjcifokmcbaoaa.gl
/- Plain laws on lists of bytes: what stands between the separators, and that the library's split gives just that. No program in sight. -/
namespace Go.Proofs.Ythjcifokmcbaoaa

/-- What stands between the separators. -/
def pcs (sep : UInt8) : List UInt8 → List (List UInt8)
  | [] => [[]]
  | c :: r => if c = sep then [] :: pcs sep r else match pcs sep r with
    | [] => [[c]]
    | p :: ps => (c :: p) :: ps
theorem pcs_ne (sep : UInt8) (l : List UInt8) : pcs sep l ≠ [] := by
  cases l with
  | nil => simp [pcs]
  | cons c r => unfold pcs; split; simp; split <;> simp
theorem pcs_other {sep c : UInt8} {r : List UInt8} {p : List UInt8} {ps : List (List UInt8)} (hc : c ≠ sep) (h : pcs sep r = p :: ps) : pcs sep (c :: r) = (c :: p) :: ps := by
  rw [pcs, if_neg hc, h]
theorem pcs_hit (sep : UInt8) : ∀ (m : Nat) (x : List UInt8), (∀ j, j < m → x[j]? ≠ some sep) → x[m]? = some sep → pcs sep x = x.take m :: pcs sep (x.drop (m + 1))
  | 0, [], _, h => by simp at h
  | 0, c :: r, _, h => by simp at h; subst h; simp [pcs]
  | m + 1, [], _, h => by simp at h
  | m + 1, c :: r, hn, h => by
    have hc : c ≠ sep := fun e => hn 0 (by omega) (by simp [e])
    exact pcs_other hc (pcs_hit sep m r (fun j hj => by have := hn (j + 1) (by omega); simpa using this) (by simpa using h))
theorem pcs_none (sep : UInt8) : ∀ (x : List UInt8), (∀ j : Nat, x[j]? ≠ some sep) → pcs sep x = [x]
  | [], _ => rfl
  | c :: r, hn => pcs_other (fun e => hn 0 (by simp [e])) (pcs_none sep r fun j => by have := hn (j + 1); simpa using this)
theorem pcs_length (sep : UInt8) : ∀ l : List UInt8, (pcs sep l).length = l.count sep + 1
  | [] => by simp [pcs]
  | c :: r => by
    have ih := pcs_length sep r
    by_cases h : c = sep
    · subst h
      simp [pcs, ih]
    · rw [List.count_cons_of_ne h]
      cases hp : pcs sep r with
      | nil => exact absurd hp (pcs_ne sep r)
      | cons p ps => rw [pcs_other h hp]; rw [hp] at ih; simpa using ih
theorem mem_pcs_le (sep : UInt8) : ∀ (l p : List UInt8), p ∈ pcs sep l → p.length ≤ l.length
  | [], p, h => by simp [pcs] at h; simp [h]
  | c :: r, p, h => by
    by_cases hc : c = sep
    · subst hc
      simp only [pcs, if_true, List.mem_cons] at h
      rcases h with rfl | h
      · simp
      · have := mem_pcs_le c r p h; simp; omega
    · cases hp : pcs sep r with
      | nil => exact absurd hp (pcs_ne sep r)
      | cons q ps =>
        rw [pcs_other hc hp] at h
        simp only [List.mem_cons] at h
        rcases h with rfl | h
        · have := mem_pcs_le sep r q (by rw [hp]; simp); simp; omega
        · have := mem_pcs_le sep r p (by rw [hp]; simp [h]); simp; omega

theorem index_hit (sep : UInt8) : ∀ (l : List UInt8), sep ∈ l → ∃ m : Nat, Lib.index l [sep] = m ∧ (∀ j, j < m → l[j]? ≠ some sep) ∧ l[m]? = some sep
  | [], h => by simp at h
  | c :: r, h => by
    by_cases hc : c = sep
    · subst hc
      exact ⟨0, by simp [Lib.index], fun j hj => by omega, by simp⟩
    · obtain ⟨m, h1, h2, h3⟩ := index_hit sep r (by simpa [Ne.symm hc] using h)
      refine ⟨m + 1, ?_, fun j hj => ?_, by simpa using h3⟩
      · have hp : ([sep] : List UInt8).isPrefixOf (c :: r) = false := by simp [List.isPrefixOf, Ne.symm hc]
        rw [Lib.index, hp, h1]
        rw [if_neg (by simp), if_neg (by simp)]
        rfl
      · cases j with
        | zero => simp [hc]
        | succ j => simpa using h2 j (by omega)

theorem splitK_pcs (sep : UInt8) : ∀ (k : Nat) (l : List UInt8), l.count sep = k → Lib.splitK [sep] 0 k l = pcs sep l
  | 0, l, h => by
    rw [Lib.splitK, pcs_none]
    intro j hj
    have := List.count_pos_iff.2 (List.mem_of_getElem? hj)
    omega
  | k + 1, l, h => by
    have hm : sep ∈ l := List.count_pos_iff.1 (by omega)
    obtain ⟨m, h1, h2, h3⟩ := index_hit sep l hm
    have hlt : m < l.length := by
      rcases Nat.lt_or_ge m l.length with h | h
      · exact h
      · rw [List.getElem?_eq_none h] at h3; cases h3
    have hcount : (l.drop (m + 1)).count sep = k := by
      have e : l = l.take m ++ sep :: l.drop (m + 1) := by
        conv => lhs; rw [← List.take_append_drop m l]
        congr 1
        rw [List.drop_eq_getElem_cons hlt]
        congr 1
        rw [List.getElem?_eq_getElem hlt] at h3
        exact Option.some.inj h3
      have h0 : (l.take m).count sep = 0 := by
        rw [List.count_eq_zero]
        intro hmem
        obtain ⟨j, hj⟩ := List.mem_iff_getElem?.1 hmem
        rw [List.getElem?_take] at hj
        split at hj
        · rename_i hjm; exact h2 j hjm hj
        · cases hj
      rw [e, List.count_append, h0, List.count_cons_self] at h
      omega
    rw [Lib.splitK, h1, if_neg (by simp)]
    rw [pcs_hit sep m l h2 h3]
    simp only [Int.toNat_natCast, Nat.add_zero, List.length_cons, List.length_nil, Nat.zero_add]
    rw [splitK_pcs sep k _ hcount]

theorem splitB_pcs (sep : UInt8) (s : ByteArray) : (Lib.splitB ⟨#[sep]⟩ 0 (Lib.countB s ⟨#[sep]⟩) s).map (·.data.toList) = pcs sep s.data.toList := by
  have hc : Lib.countB s ⟨#[sep]⟩ = s.data.toList.count sep := by
    show Lib.count s.data.toList [sep] = _
    exact Lib.count_one sep s.data.toList
  rw [Lib.splitB_data, hc]
  exact splitK_pcs sep _ _ rfl
theorem countB_pcs (sep : UInt8) (s : ByteArray) : Lib.countB s ⟨#[sep]⟩ + 1 = (pcs sep s.data.toList).length := by
  rw [← splitB_pcs, List.length_map, Lib.splitB_all _ (by simp [ByteArray.size]) 0 _ s rfl]
end Go.Proofs.Ythjcifokmcbaoaa
/- Names: a plain function of bytes, and the reference's IsName, which returns it. Condition: the text is no longer than 2147483647 bytes. -/
namespace Go.Proofs.Ythjcifokmcbaoaa.gl
open Go.ChangeShapes Go.WideShapes Go.ChangeAt Go.RowKit

/-- A name. -/
def nameL (l : List UInt8) : Bool := decide (l.length ≤ 32) && decide ((pcs 46 l).length ≤ 3) && (pcs 46 l).all partL

/-- k bytes have been passed, the part that is read begins at f, n - 1 parts have been read and are parts. -/
structure Scan (l : List UInt8) (n f k : Nat) : Prop where
  le : f ≤ k
  all : (pcs 46 l).all partL = (pcs 46 (l.drop f)).all partL
  len : (pcs 46 l).length + 1 = n + (pcs 46 (l.drop f)).length
  free : ∀ j, f ≤ j → j < k → l[j]? ≠ some 46
  many : 1 ≤ n ∧ n ≤ k + 1
theorem Scan.start (l : List UInt8) : Scan l 1 0 0 := ⟨by omega, rfl, by simp; omega, fun j _ h => by omega, by omega⟩
theorem Scan.pass {l : List UInt8} {n f k : Nat} {b : UInt8} (h : Scan l n f k) (hb : l[k]? = some b) (hne : b ≠ 46) : Scan l n f (k + 1) :=
  ⟨by have := h.le; omega, h.all, h.len, fun j h1 h2 => by
    rcases Nat.lt_or_ge j k with h3 | h3
    · exact h.free j h1 h3
    · obtain rfl : j = k := by omega
      rw [hb]; exact fun e => hne (Option.some.inj e), by have := h.many; omega⟩
theorem Scan.piece {l : List UInt8} {n f k : Nat} (h : Scan l n f k) (hb : l[k]? = some 46) : pcs 46 (l.drop f) = (l.drop f).take (k - f) :: pcs 46 (l.drop (k + 1)) := by
  have hle := h.le
  have := pcs_hit 46 (k - f) (l.drop f) (fun j hj => by rw [List.getElem?_drop]; exact h.free (f + j) (by omega) (by omega)) (by rw [List.getElem?_drop, show f + (k - f) = k by omega]; exact hb)
  rw [List.drop_drop, show f + (k - f + 1) = k + 1 by omega] at this
  exact this
theorem Scan.hit {l : List UInt8} {n f k : Nat} (h : Scan l n f k) (hb : l[k]? = some 46) (hp : partL ((l.drop f).take (k - f)) = true) : Scan l (n + 1) (k + 1) (k + 1) := by
  have e := h.piece hb
  refine ⟨Nat.le_refl _, ?_, ?_, fun j h1 h2 => by omega, by have := h.many; omega⟩
  · rw [h.all, e, List.all_cons, hp, Bool.true_and]
  · have := h.len; rw [e, List.length_cons] at this; omega
theorem Scan.bad {l : List UInt8} {n f k : Nat} (h : Scan l n f k) (hb : l[k]? = some 46) (hp : partL ((l.drop f).take (k - f)) = false) : nameL l = false := by
  unfold nameL
  rw [h.all, h.piece hb, List.all_cons, hp, Bool.false_and, Bool.and_false]
theorem Scan.last {l : List UInt8} {n f : Nat} (h : Scan l n f l.length) : nameL l = (decide (l.length ≤ 32) && decide (n ≤ 3) && partL (l.drop f)) := by
  have e : pcs 46 (l.drop f) = [l.drop f] := pcs_none 46 _ fun j => by
    rw [List.getElem?_drop]
    rcases Nat.lt_or_ge (f + j) l.length with h1 | h1
    · exact h.free _ (by omega) h1
    · rw [List.getElem?_eq_none h1]; simp
  have hl := h.len
  rw [e] at hl
  simp at hl
  unfold nameL
  rw [h.all, e]
  simp [hl]

theorem extract_toList (s : ByteArray) (a b : Nat) : (s.extract a b).data.toList = (s.data.toList.drop a).take (b - a) := by
  rw [Lib.extract_data]
theorem extract_size_le (s : ByteArray) (a b : Nat) : (s.extract a b).size ≤ s.size := by
  rw [ByteArray.size_extract]; omega

end Go.Proofs.Ythjcifokmcbaoaa.gl
/- glyph.IsName returns the plain function of bytes. Conditions: the tables hold what the text lays; the text is no longer than 2147483647 bytes. -/
namespace Go.Proofs.Ythjcifokmcbaoaa.gl
open Go.ChangeShapes Go.WideShapes Go.ChangeAt Go.RowKit

theorem pieceAt {ps : List ByteArray} {L : List (List UInt8)} (h : ps.map (·.data.toList) = L) (k : Nat) (hk : k < ps.length) : ∃ p : ByteArray, ps[k]? = some p ∧ L[k]? = some p.data.toList :=
  ⟨ps[k], List.getElem?_eq_getElem hk, by rw [← h, List.getElem?_map, List.getElem?_eq_getElem hk]; rfl⟩

theorem all_false_of {L : List (List UInt8)} {k : Nat} {p : List UInt8} (h : L[k]? = some p) (hp : partL p = false) : L.all partL = false := by
  rw [List.all_eq_false]
  exact ⟨p, List.mem_of_getElem? h, by simp [hp]⟩
theorem nameL_bad {l : List UInt8} {k : Nat} {p : List UInt8} (h : (pcs 46 l)[k]? = some p) (hp : partL p = false) : nameL l = false := by
  unfold nameL
  rw [all_false_of h hp, Bool.and_false]
def allTo (L : List (List UInt8)) (k : Nat) : Prop := ∀ j p, j < k → L[j]? = some p → partL p = true
theorem allTo_succ {L : List (List UInt8)} {k : Nat} {p : List UInt8} (h : allTo L k) (hp : L[k]? = some p) (ht : partL p = true) : allTo L (k + 1) := by
  intro j q hj hq
  rcases Nat.lt_or_ge j k with h1 | h1
  · exact h j q h1 hq
  · obtain rfl : j = k := by omega
    rw [hp] at hq
    obtain rfl := Option.some.inj hq
    exact ht
theorem allTo_all {L : List (List UInt8)} (h : allTo L L.length) : L.all partL = true := by
  rw [List.all_eq_true]
  intro p hp
  obtain ⟨j, hj⟩ := List.mem_iff_getElem?.1 hp
  exact h j p (by
    rcases Nat.lt_or_ge j L.length with h1 | h1
    · exact h1
    · rw [List.getElem?_eq_none h1] at hj; cases hj) hj
theorem partTo_full {l : List UInt8} {b : UInt8} (h0 : l[0]? = some b) (h1 : cls b.toNat = 1) (h : ∀ (j : Nat) (c : UInt8), l[j]? = some c → cls c.toNat = 1 ∨ cls c.toNat = 3) : partL l = true := by
  have hlen : 0 < l.length := by
    rcases Nat.eq_zero_or_pos l.length with h | h
    · rw [List.getElem?_eq_none (by omega)] at h0; cases h0
    · exact h
  rw [part_end (fun j c _ hc => by
    rcases h j c hc with h2 | h2
    · exact .inl h2
    · refine .inr ⟨?_, h2⟩
      rintro rfl
      rw [h0] at hc
      obtain rfl := Option.some.inj hc
      omega)]
  cases l with
  | nil => simp at hlen
  | cons => rfl

theorem toList_nil {p : ByteArray} (h : p.size = 0) : p.toList = [] := by
  rw [ByteArray.toList_eq]
  exact List.eq_nil_of_length_eq_zero (by simpa using h)
theorem toList_ne {p : ByteArray} (h : p.size ≠ 0) : p.toList.isEmpty = false := by
  rw [ByteArray.toList_eq]
  cases hl : p.data.toList with
  | nil => exact absurd (by have := congrArg List.length hl; simpa using this) h
  | cons => rfl
/-- The bytes before j are small letters or digits. -/
def wordTo (l : List UInt8) (j : Nat) : Prop := ∀ (i : Nat) (c : UInt8), i < j → l[i]? = some c → cls c.toNat = 1 ∨ cls c.toNat = 3
theorem wordTo_succ {l : List UInt8} {j : Nat} {b : UInt8} (h : wordTo l j) (hb : l[j]? = some b) (hc : cls b.toNat = 1 ∨ cls b.toNat = 3) : wordTo l (j + 1) := by
  intro i c hi hic
  rcases Nat.lt_or_ge i j with h1 | h1
  · exact h i c h1 hic
  · obtain rfl : i = j := by omega
    rw [hb] at hic
    obtain rfl := Option.some.inj hic
    exact hc
theorem part_bad' {l : List UInt8} {k : Nat} {b : UInt8} (hb : l[k]? = some b) (h1 : cls b.toNat ≠ 1) (h2 : cls b.toNat ≠ 3) : partL l = false := part_bad hb h1 (.inr h2)
theorem lt_of_get {α : Type} {l : List α} {j : Nat} {c : α} (h : l[j]? = some c) : j < l.length := by
  rcases Nat.lt_or_ge j l.length with h1 | h1
  · exact h1
  · rw [List.getElem?_eq_none h1] at h; cases h

end Go.Proofs.Ythjcifokmcbaoaa.gl
/- Folding: a plain function of bytes; glyph.Fold and the reference's Fold return it. Conditions: the tables hold what the text lays; the text is no longer than 2147483647 bytes. -/
namespace Go.Proofs.Ythjcifokmcbaoaa.gl
open Go.ChangeShapes Go.WideShapes Go.ChangeAt Go.RowKit

def foldB (b : UInt8) : UInt8 := if 65 ≤ b.toNat ∧ b.toNat ≤ 90 then UInt8.ofNat (b.toNat + 32) else b
def foldL (l : List UInt8) : List UInt8 := l.map foldB
theorem foldB_great {b : UInt8} (h : 65 ≤ b.toNat ∧ b.toNat ≤ 90) : ((foldB b).toNat : Int) = b.toNat + 32 := by
  unfold foldB
  rw [if_pos h, UInt8.toNat_ofNat']
  omega
theorem foldB_other {b : UInt8} (h : ¬ (65 ≤ b.toNat ∧ b.toNat ≤ 90)) : foldB b = b := by unfold foldB; rw [if_neg h]
theorem cls_great (c : Int) : cls c = 2 ↔ 65 ≤ c ∧ c ≤ 90 := by
  unfold cls
  split
  · omega
  · split
    · omega
    · repeat (split; omega)
      omega
/-- The first k bytes have been folded. -/
def foldAt (k j : Nat) (b : UInt8) : UInt8 := if j < k then foldB b else b
structure Folds (w : World) (g k : Nat) (l : List UInt8) : Prop where
  cell : ∀ (j : Nat) (b : UInt8), l[j]? = some b → w.cell? ⟨g, j, none⟩ = some (.int .u8 ((foldAt k j b).toNat : Int))
  free : ∀ (j : Nat), j < l.length → w.frozen? ⟨g, j, none⟩ = false
theorem Folds.start {w : World} {g : Nat} {l : List UInt8} (h : Lies w g l) : Folds w g 0 l := ⟨fun j b hj => h.cell j b hj, h.free⟩
theorem Folds.below {w w' : World} {g k B : Nat} {l : List UInt8} (h : Folds w g k l) (hb : Below B w w') (hg : g < B) : Folds w' g k l :=
  ⟨fun j b hj => (hb.cell (p := ⟨g, j, none⟩) hg).trans (h.cell j b hj), fun j hj => (hb.frozen (p := ⟨g, j, none⟩) hg).trans (h.free j hj)⟩
theorem Folds.skip {w : World} {g k : Nat} {l : List UInt8} {b : UInt8} (h : Folds w g k l) (hb : l[k]? = some b) (hf : foldB b = b) : Folds w g (k + 1) l := by
  refine ⟨fun j c hj => ?_, h.free⟩
  rw [h.cell j c hj]
  unfold foldAt
  by_cases h1 : j < k
  · rw [if_pos h1, if_pos (by omega)]
  · rw [if_neg h1]
    by_cases h2 : j < k + 1
    · obtain rfl : j = k := by omega
      rw [hb] at hj
      obtain rfl := Option.some.inj hj
      rw [if_pos h2, hf]
    · rw [if_neg h2]
theorem Folds.set {w : World} {g k : Nat} {l : List UInt8} {b : UInt8} {n : Int} (h : Folds w g k l) (hb : l[k]? = some b) (hn : n = ((foldB b).toNat : Int)) : Folds (w.setCell ⟨g, k, none⟩ (.int .u8 n)) g (k + 1) l := by
  subst hn
  refine ⟨fun j c hj => ?_, fun j hj => by rw [World.frozen?_setCell]; exact h.free j hj⟩
  by_cases h1 : j = k
  · subst h1
    rw [hb] at hj
    obtain rfl := Option.some.inj hj
    rw [World.cell?_setCell_same w _ _ (h.cell j b hb)]
    unfold foldAt
    rw [if_pos (by omega)]
  · rw [World.cell?_setCell_other w _ _ _ (by intro e; injection e with _ e2 _; exact h1 e2.symm), h.cell j c hj]
    unfold foldAt
    by_cases h2 : j < k
    · rw [if_pos h2, if_pos (by omega)]
    · rw [if_neg h2, if_neg (by omega)]
theorem Folds.done {w : World} {g : Nat} {l : List UInt8} (h : Folds w g l.length l) : ∀ (j : Nat) (b : UInt8), (foldL l)[j]? = some b → w.cell? ⟨g, j, none⟩ = some (.int .u8 (b.toNat : Int)) := by
  intro j b hj
  simp only [foldL, List.getElem?_map, Option.map_eq_some_iff] at hj
  obtain ⟨c, hc, rfl⟩ := hj
  rw [h.cell j c hc]
  unfold foldAt
  rw [if_pos (lt_of_get hc)]
theorem foldL_length (l : List UInt8) : (foldL l).length = l.length := by simp [foldL]

end Go.Proofs.Ythjcifokmcbaoaa.gl
/- Words: a plain function of bytes; glyph.IsWord and the reference's IsWord return it. Conditions: the tables hold what the text lays; the text is no longer than 2147483647 bytes. -/
namespace Go.Proofs.Ythjcifokmcbaoaa.gl
open Go.ChangeShapes Go.WideShapes Go.ChangeAt Go.RowKit

def wb (c : Int) : Bool := decide (cls c = 1 ∨ cls c = 3 ∨ c = 45 ∨ c = 95 ∨ c = 46)
/-- A word. -/
def wordL (l : List UInt8) : Bool := (l.all fun b => wb b.toNat) && (decide (1 ≤ l.length) && decide (l.length ≤ 32))
def wbTo (l : List UInt8) (k : Nat) : Prop := ∀ (j : Nat) (b : UInt8), j < k → l[j]? = some b → wb b.toNat = true
theorem wbTo_succ {l : List UInt8} {j : Nat} {b : UInt8} (h : wbTo l j) (hb : l[j]? = some b) (hc : wb b.toNat = true) : wbTo l (j + 1) := by
  intro i c hi hic
  rcases Nat.lt_or_ge i j with h1 | h1
  · exact h i c h1 hic
  · obtain rfl : i = j := by omega
    rw [hb] at hic
    obtain rfl := Option.some.inj hic
    exact hc
theorem word_bad {l : List UInt8} {k : Nat} {b : UInt8} (hb : l[k]? = some b) (h : wb b.toNat = false) : wordL l = false := by
  unfold wordL
  have : (l.all fun b => wb b.toNat) = false := by
    rw [List.all_eq_false]
    exact ⟨b, List.mem_of_getElem? hb, by simp [h]⟩
  rw [this, Bool.false_and]
theorem word_end {l : List UInt8} (h : wbTo l l.length) : wordL l = (decide (1 ≤ l.length) && decide (l.length ≤ 32)) := by
  have : (l.all fun b => wb b.toNat) = true := by
    rw [List.all_eq_true]
    intro b hb
    obtain ⟨j, hj⟩ := List.mem_iff_getElem?.1 hb
    exact h j b (lt_of_get hj) hj
  unfold wordL
  rw [this, Bool.true_and]
theorem wb_yes {c : Int} (h : cls c = 1 ∨ cls c = 3 ∨ c = 45 ∨ c = 95 ∨ c = 46) : wb c = true := decide_eq_true h
theorem wb_no {c : Int} (h : ¬ (cls c = 1 ∨ cls c = 3 ∨ c = 45 ∨ c = 95 ∨ c = 46)) : wb c = false := decide_eq_false h

end Go.Proofs.Ythjcifokmcbaoaa.gl
/- A law on memory for any program: an append of elements that were just laid, to a row of one-cell elements that the call owns. No conditions beside those stated. -/
namespace Go.Proofs.Ythjcifokmcbaoaa
open Go.RowKit
section
variable {P : Program}

/-- 'append(out, x, y ..)', out a row of one-cell elements of the call's own (or nil): the new row. -/
theorem wpList_append_lit {ops : Array Oper} {rest : List Oper} {o : Oper} {a : Act} {w : World} {Q : Exit → Act → World → Prop} (hgd : o.guard = none) (s x : Operand) (t : TypeId)
    (ho : o.op = .call { callee := .builtin .append, args := #[s, x], argTypes := #[t, t] })
    (e : TypeId) (i : TypeInfo) (z : Value) (bytes : Nat) (ht : P.underlying t = some (.slice e)) (hi : P.info? e = some i) (hz : i.zero = some z)
    (hsize : i.size = 1) (hby : i.bytes = bytes) (hzs : z.cells.size = 1) (cs : Array Value) (m : Nat) (hm : 0 < m) (hx : a.eval x = .slice (some ⟨w.heap.size, 0, none⟩) m m) (hl : cs.size = m)
    (base : Nat) (v : Value) (n : Nat) (xs : List Value) (hs : a.eval s = v) (hown : w.ownsRow base e 1 v n xs)
    (h1 : ∀ u ∈ cs.toList, u.oneCell' = true) (h63 : n + m ≤ 9223372036854775807) (hbytes : (n + m) * bytes ≤ 140737488355328) (hbase : base ≤ w.heap.size)
    (h : ∀ g cap w', w'.ownsRow base e 1 (.slice (some ⟨g, 0, none⟩) (n + m) cap) (n + m) (xs ++ cs.toList) → w.grownBy w' v.ownBlock → (v.ownBlock = some g ∨ w.heap.size ≤ g) → w.heap.size < w'.heap.size → g < w'.heap.size →
      wpList P ops Q rest (a.put o.dst (.slice (some ⟨g, 0, none⟩) (n + m) cap)) w') :
    wpList P ops Q (o :: rest) a (w.alloc (.cells cs e)) := by
  refine wpList_append_lies (w.alloc (.cells cs e)) hgd s x t ho base e i z 1 bytes ht hi hz hsize hby hzs (by omega) v n xs hs (hown.alloc _) ⟨w.heap.size, 0, none⟩ m m cs.toList hx (by simpa using hl)
    (World.news_of_block (heap_alloc_new w _)) h1 hm (by unfold maxLen; omega) hbytes (by simp; omega) (w.heap.size + 1) (by simp) fun g cap w' h2 h3 h4 h5 => ?_
  refine h g cap w' h2 ⟨h3.os, h3.tape, h3.output, by have := h3.size; simp at this; omega, fun k hk hne => (h3.block k (by simp; omega) hne).trans (Below.heap_alloc w _ k hk)⟩ ?_ (by have := h3.size; simp at this; omega) h5
  rcases h4 with h4 | h4
  · exact .inl h4
  · exact .inr (by omega)

/-- The same at a step of a region that draws its order. -/
theorem step_append_lit {ops : Array Oper} {o : Oper} {a : Act} {w : World} {K : Act → World → Prop} {Q : Exit → Act → World → Prop} {E : Prop} (hgd : o.guard = none) (s x : Operand) (t : TypeId)
    (ho : o.op = .call { callee := .builtin .append, args := #[s, x], argTypes := #[t, t] })
    (e : TypeId) (i : TypeInfo) (z : Value) (bytes : Nat) (ht : P.underlying t = some (.slice e)) (hi : P.info? e = some i) (hz : i.zero = some z)
    (hsize : i.size = 1) (hby : i.bytes = bytes) (hzs : z.cells.size = 1) (cs : Array Value) (m : Nat) (hm : 0 < m) (hx : a.eval x = .slice (some ⟨w.heap.size, 0, none⟩) m m) (hl : cs.size = m)
    (base : Nat) (v : Value) (n : Nat) (xs : List Value) (hs : a.eval s = v) (hown : w.ownsRow base e 1 v n xs)
    (h1 : ∀ u ∈ cs.toList, u.oneCell' = true) (h63 : n + m ≤ 9223372036854775807) (hbytes : (n + m) * bytes ≤ 140737488355328) (hbase : base ≤ w.heap.size)
    (h : ∀ g cap w', w'.ownsRow base e 1 (.slice (some ⟨g, 0, none⟩) (n + m) cap) (n + m) (xs ++ cs.toList) → w.grownBy w' v.ownBlock → (v.ownBlock = some g ∨ w.heap.size ≤ g) → w.heap.size < w'.heap.size → g < w'.heap.size →
      K (a.put o.dst (.slice (some ⟨g, 0, none⟩) (n + m) cap)) w') :
    if Region.wanted o (yielded ops a.tmps) = true then Oper.wp P o a (w.alloc (.cells cs e)).drew K Q else E := by
  refine step_append_lies (w.alloc (.cells cs e)).drew hgd s x t ho base e i z 1 bytes ht hi hz hsize hby hzs (by omega) v n xs hs (hown.alloc _) ⟨w.heap.size, 0, none⟩ m m cs.toList hx (by simpa using hl)
    (World.news_of_block (heap_alloc_new w _)) h1 hm (by unfold maxLen; omega) hbytes (by simp; omega) (w.heap.size + 1) (by simp) fun g cap w' h2 h3 h4 h5 => ?_
  refine h g cap w' h2 ⟨h3.os, h3.tape, h3.output, by have := h3.size; simp at this; omega, fun k hk hne => (h3.block k (by simp; omega) hne).trans (Below.heap_alloc w _ k hk)⟩ ?_ (by have := h3.size; simp at this; omega) h5
  rcases h4 with h4 | h4
  · exact .inl h4
  · exact .inr (by omega)
end

/-- Behind such an append old memory is as it was. -/
theorem below_grown_own {B : Nat} {w0 w w' : World} {e : TypeId} {size n : Nat} {v : Value} {xs : List Value} (hb : Below B w0 w) (hown : w.ownsRow B e size v n xs) (hg : w.grownBy w' v.ownBlock) (hB : B ≤ w.heap.size) : Below B w0 w' :=
  hb.grown hg hB fun k hk => (hown.lt k hk).1
end Go.Proofs.Ythjcifokmcbaoaa
/- Quoting: a plain function of bytes; glyph.Quote and the reference's Quote return it. Condition: the text is no longer than 2147483647 bytes. -/
namespace Go.Proofs.Ythjcifokmcbaoaa.gl
open Go.ChangeShapes Go.WideShapes Go.ChangeAt Go.RowKit

def hexd (d : Nat) : UInt8 := if d < 10 then UInt8.ofNat (48 + d) else UInt8.ofNat (87 + d)
/-- How a byte is quoted. -/
def qB (b : UInt8) : List UInt8 := if b.toNat = 34 ∨ b.toNat = 92 then [92, b] else if 32 ≤ b.toNat ∧ b.toNat ≤ 126 then [b] else [92, 120, hexd (b.toNat / 16), hexd (b.toNat % 16)]
def quoteL (l : List UInt8) : List UInt8 := 34 :: (l.flatMap qB ++ [34])
theorem qB_le (b : UInt8) : (qB b).length ≤ 4 := by unfold qB; split; simp; split <;> simp
theorem flat_le (l : List UInt8) : (l.flatMap qB).length ≤ 4 * l.length := by
  induction l with
  | nil => simp
  | cons c r ih => rw [List.flatMap_cons, List.length_append, List.length_cons]; have := qB_le c; omega
theorem hexIx (d : Nat) (hd : d < 16) : ∀ h : d < (⟨#[48, 49, 50, 51, 52, 53, 54, 55, 56, 57, 97, 98, 99, 100, 101, 102]⟩ : ByteArray).size,
    (((⟨#[48, 49, 50, 51, 52, 53, 54, 55, 56, 57, 97, 98, 99, 100, 101, 102]⟩ : ByteArray)[d]'h).toNat : Int) = ((hexd d).toNat : Int) := by
  intro h
  rcases (show d = 0 ∨ d = 1 ∨ d = 2 ∨ d = 3 ∨ d = 4 ∨ d = 5 ∨ d = 6 ∨ d = 7 ∨ d = 8 ∨ d = 9 ∨ d = 10 ∨ d = 11 ∨ d = 12 ∨ d = 13 ∨ d = 14 ∨ d = 15 by omega) with rfl | rfl | rfl | rfl | rfl | rfl | rfl | rfl | rfl | rfl | rfl | rfl | rfl | rfl | rfl | rfl <;> rfl
theorem Try.infoByte : (Try.prog.info? 5).map (fun i => (i.zero, i.size, i.bytes)) = some (some (.int .u8 0), 1, 1) := by kernel_rfl
/-- What stands behind k bytes. -/
def qTo (l : List UInt8) (k : Nat) : List UInt8 := 34 :: (l.take k).flatMap qB
theorem qTo_zero (l : List UInt8) : qTo l 0 = [34] := rfl
theorem qTo_succ {l : List UInt8} {k : Nat} {b : UInt8} (h : l[k]? = some b) : qTo l (k + 1) = qTo l k ++ qB b := by
  have hlt : k < l.length := by
    rcases Nat.lt_or_ge k l.length with h1 | h1
    · exact h1
    · rw [List.getElem?_eq_none h1] at h; cases h
  have : l.take (k + 1) = l.take k ++ [b] := by
    rw [List.take_succ_eq_append_getElem hlt]
    rw [List.getElem?_eq_getElem hlt] at h
    rw [Option.some.inj h]
  simp [qTo, this]
theorem qTo_le (l : List UInt8) (k : Nat) : (qTo l k).length ≤ 1 + 4 * k := by
  have h1 := flat_le (l.take k)
  have h2 : (l.take k).length ≤ k := List.length_take_le _ _
  simp only [qTo, List.length_cons]
  omega
theorem qTo_end (l : List UInt8) : qTo l l.length ++ [34] = quoteL l := by simp [qTo, quoteL]

theorem own_next {l : List UInt8} {k : Nat} {b : UInt8} {cs : List Value} {w : World} {B m : Nat} {e : TypeId} {v : Value} (hb : l[k]? = some b) (hq : bv (qB b) = cs)
    (h : w.ownsRow B e 1 v m (bv (qTo l k) ++ cs)) : w.ownsRow B e 1 v m (bv (qTo l (k + 1))) := by
  rw [qTo_succ hb, bv_append, hq]; exact h

end Go.Proofs.Ythjcifokmcbaoaa.gl
/- Plain laws on quoting: what is quoted is read back, by the strict reader and by the lenient one. No program in sight. -/
namespace Go.Proofs.Ythjcifokmcbaoaa.gl
open Go.RowKit

/-- What a digit of sixteen says; below 0: it is none. -/
def digv (c : UInt8) : Int := if 48 ≤ c.toNat ∧ c.toNat ≤ 57 then (c.toNat : Int) - 48 else if 97 ≤ c.toNat ∧ c.toNat ≤ 102 then (c.toNat : Int) - 87 else -1
theorem digv_bd (c : UInt8) : -1 ≤ digv c ∧ digv c ≤ 15 := by unfold digv; split; omega; split <;> omega
theorem hexd_nat {d : Nat} (h : d < 16) : (hexd d).toNat = if d < 10 then 48 + d else 87 + d := by
  unfold hexd
  split <;> rw [UInt8.toNat_ofNat'] <;> omega
theorem digv_hexd {d : Nat} (h : d < 16) : digv (hexd d) = d := by
  have := hexd_nat h
  unfold digv
  by_cases h1 : d < 10
  · rw [if_pos h1] at this
    rw [if_pos (by omega)]; omega
  · rw [if_neg h1] at this
    rw [if_neg (by omega), if_pos (by omega)]; omega
theorem hexd_digv {c : UInt8} {d : Nat} (h : digv c = d) : c = hexd d ∧ d < 16 := by
  have hd : d < 16 := by have := digv_bd c; omega
  refine ⟨UInt8.toNat_inj.1 ?_, hd⟩
  rw [hexd_nat hd]
  unfold digv at h
  split at h
  · rw [if_pos (by omega)]; omega
  · split at h
    · rw [if_neg (by omega)]; omega
    · omega
theorem digv_index : ∀ n : Nat, n < 256 → Lib.indexByte [48, 49, 50, 51, 52, 53, 54, 55, 56, 57, 97, 98, 99, 100, 101, 102] (UInt8.ofNat n) = digv (UInt8.ofNat n) := by decide +kernel
theorem indexByte_hex (c : UInt8) : Lib.indexByte [48, 49, 50, 51, 52, 53, 54, 55, 56, 57, 97, 98, 99, 100, 101, 102] c = digv c := by
  have := digv_index c.toNat c.toNat_lt
  rwa [UInt8.ofNat_toNat] at this

/-- The strict reader's step: the byte that is meant, and how many bytes say it (0: none do). -/
def nextL : List UInt8 → UInt8 × Nat
  | [] => (0, 0)
  | a :: r => if a.toNat = 34 ∨ a.toNat < 32 ∨ 126 < a.toNat then (0, 0) else if a.toNat ≠ 92 then (a, 1) else match r with
    | [] => (0, 0)
    | b :: r' => if b.toNat = 34 ∨ b.toNat = 92 then (b, 2) else if b.toNat ≠ 120 then (0, 0) else match r' with
      | c :: d :: _ => if digv c < 0 ∨ digv d < 0 ∨ (32 ≤ 16 * digv c + digv d ∧ 16 * digv c + digv d ≤ 126) then (0, 0) else (UInt8.ofNat (16 * digv c + digv d).toNat, 4)
      | _ => (0, 0)

theorem nextL_qB (b : UInt8) (t : List UInt8) : nextL (qB b ++ t) = (b, (qB b).length) := by
  have hb := b.toNat_lt
  unfold qB
  split
  · rename_i h
    simp only [List.cons_append, List.nil_append, nextL]
    rw [if_neg (by decide), if_neg (by decide), if_pos h]
    rfl
  · rename_i h
    split
    · rename_i h2
      show (if (b.toNat = 34 ∨ b.toNat < 32 ∨ 126 < b.toNat) then _ else if b.toNat ≠ 92 then _ else _) = _
      rw [if_neg (by omega), if_pos (by omega)]
      rfl
    · rename_i h2
      have h16 : b.toNat / 16 < 16 := by omega
      have h17 : b.toNat % 16 < 16 := by omega
      simp only [List.cons_append, List.nil_append, nextL]
      rw [digv_hexd h16, digv_hexd h17, if_neg (by decide), if_neg (by decide), if_neg (by decide), if_neg (by decide), if_neg (by omega)]
      have : (16 * ((b.toNat / 16 : Nat) : Int) + ((b.toNat % 16 : Nat) : Int)).toNat = b.toNat := by omega
      rw [this, UInt8.ofNat_toNat]
      rfl
theorem nextL_ok {l : List UInt8} {c : UInt8} {n : Nat} (h : nextL l = (c, n)) (hn : n ≠ 0) : l = qB c ++ l.drop n ∧ n = (qB c).length := by
  cases l with
  | nil => simp [nextL] at h; omega
  | cons a r =>
    unfold nextL at h
    simp only at h
    by_cases h1 : a.toNat = 34 ∨ a.toNat < 32 ∨ 126 < a.toNat
    · rw [if_pos h1] at h; simp at h; omega
    · rw [if_neg h1] at h
      by_cases h2 : a.toNat ≠ 92
      · rw [if_pos h2] at h
        simp only [Prod.mk.injEq] at h
        obtain ⟨rfl, rfl⟩ := h
        have : qB a = [a] := by unfold qB; rw [if_neg (by omega), if_pos (by omega)]
        rw [this]
        exact ⟨rfl, rfl⟩
      · rw [if_neg h2] at h
        have ha : a = 92 := UInt8.toNat_inj.1 (by show a.toNat = 92; omega)
        cases r with
        | nil => simp at h; omega
        | cons b r' =>
          simp only at h
          by_cases h3 : b.toNat = 34 ∨ b.toNat = 92
          · rw [if_pos h3] at h
            simp only [Prod.mk.injEq] at h
            obtain ⟨rfl, rfl⟩ := h
            have : qB b = [92, b] := by unfold qB; rw [if_pos h3]
            rw [this, ha]
            exact ⟨rfl, rfl⟩
          · rw [if_neg h3] at h
            by_cases h4 : b.toNat ≠ 120
            · rw [if_pos h4] at h; simp at h; omega
            · rw [if_neg h4] at h
              have hb : b = 120 := UInt8.toNat_inj.1 (by show b.toNat = 120; omega)
              match r', h with
              | [], h => simp at h; omega
              | [_], h => simp at h; omega
              | x :: y :: t, h =>
                simp only at h
                by_cases h5 : digv x < 0 ∨ digv y < 0 ∨ (32 ≤ 16 * digv x + digv y ∧ 16 * digv x + digv y ≤ 126)
                · rw [if_pos h5] at h; simp at h; omega
                · rw [if_neg h5] at h
                  simp only [Prod.mk.injEq] at h
                  obtain ⟨hc, rfl⟩ := h
                  obtain ⟨dx, hdx⟩ := Int.eq_ofNat_of_zero_le (show 0 ≤ digv x by omega)
                  obtain ⟨dy, hdy⟩ := Int.eq_ofNat_of_zero_le (show 0 ≤ digv y by omega)
                  obtain ⟨ex, hx⟩ := hexd_digv hdx
                  obtain ⟨ey, hy⟩ := hexd_digv hdy
                  have hn : c.toNat = 16 * dx + dy := by
                    rw [← hc, UInt8.toNat_ofNat', hdx, hdy]
                    omega
                  rw [hdx, hdy] at h5
                  have : qB c = [92, 120, hexd (c.toNat / 16), hexd (c.toNat % 16)] := by
                    unfold qB
                    rw [if_neg (by omega), if_neg (by omega)]
                  rw [this, hn, show (16 * dx + dy) / 16 = dx by omega, show (16 * dx + dy) % 16 = dy by omega, ← ex, ← ey, ha, hb]
                  exact ⟨rfl, rfl⟩
theorem qB_inj {c d : UInt8} {t u : List UInt8} (h : qB c ++ t = qB d ++ u) : c = d ∧ t = u := by
  have h1 := nextL_qB c t
  rw [h, nextL_qB d u] at h1
  simp only [Prod.mk.injEq] at h1
  obtain ⟨rfl, _⟩ := h1
  exact ⟨rfl, List.append_cancel_left h⟩
theorem qB_ne (c : UInt8) (t : List UInt8) : qB c ++ t ≠ [] := by unfold qB; split; simp; split <;> simp
theorem flat_prefix : ∀ (out x rest : List UInt8), out.flatMap qB ++ rest = x.flatMap qB → ∃ y, rest = y.flatMap qB ∧ x = out ++ y
  | [], x, rest, h => ⟨x, by simpa using h, rfl⟩
  | c :: out, [], rest, h => by
    rw [List.flatMap_cons, List.append_assoc] at h
    exact absurd h (qB_ne _ _)
  | c :: out, d :: x, rest, h => by
    rw [List.flatMap_cons, List.flatMap_cons, List.append_assoc] at h
    obtain ⟨rfl, h2⟩ := qB_inj h
    obtain ⟨y, h3, h4⟩ := flat_prefix out x rest h2
    exact ⟨y, h3, by rw [h4]; rfl⟩
theorem flat_inj {x y : List UInt8} (h : x.flatMap qB = y.flatMap qB) : x = y := by
  obtain ⟨z, h1, h2⟩ := flat_prefix x y [] (by simpa using h)
  cases z with
  | nil => simpa using h2.symm
  | cons c z => rw [List.flatMap_cons] at h1; exact absurd h1.symm (qB_ne _ _)
theorem quoteL_inj {x y : List UInt8} (h : quoteL x = quoteL y) : x = y := by
  unfold quoteL at h
  simp only [List.cons.injEq, true_and] at h
  exact flat_inj (List.append_cancel_right h)

/-- What is read, and the error. -/
noncomputable def unqL (l : List UInt8) : List UInt8 := open Classical in if h : ∃ x, quoteL x = l then h.choose else []
noncomputable def unqE (l : List UInt8) : Int := open Classical in if ∃ x, quoteL x = l then 0 else 20
theorem unqL_yes {x l : List UInt8} (h : quoteL x = l) : unqL l = x ∧ unqE l = 0 := by
  have hx : ∃ x, quoteL x = l := ⟨x, h⟩
  refine ⟨?_, ?_⟩
  · unfold unqL
    rw [dif_pos hx]
    exact quoteL_inj (hx.choose_spec.trans h.symm)
  · unfold unqE
    rw [if_pos hx]
theorem unqL_no {l : List UInt8} (h : ∀ x, quoteL x ≠ l) : unqL l = [] ∧ unqE l = 20 := by
  have hx : ¬ ∃ x, quoteL x = l := fun ⟨x, hx⟩ => h x hx
  refine ⟨?_, ?_⟩
  · unfold unqL
    rw [dif_neg hx]
  · unfold unqE
    rw [if_neg hx]

/-! ### What stands between the quotes -/
theorem inner_of_quote {x l : List UInt8} (h : quoteL x = l) : 2 ≤ l.length ∧ l[0]? = some 34 ∧ l[l.length - 1]? = some 34 ∧ (l.drop 1).take (l.length - 2) = x.flatMap qB := by
  subst h
  refine ⟨by simp [quoteL], rfl, ?_, ?_⟩
  · simp [quoteL]
  · simp [quoteL]
theorem quote_of_inner {x l : List UInt8} (h2 : 2 ≤ l.length) (h0 : l[0]? = some 34) (h1 : l[l.length - 1]? = some 34) (h : (l.drop 1).take (l.length - 2) = x.flatMap qB) : quoteL x = l := by
  unfold quoteL
  rw [← h]
  cases l with
  | nil => simp at h2
  | cons a r =>
    simp at h0
    subst h0
    simp only [List.drop_succ_cons, List.drop_zero, List.length_cons] at *
    congr 1
    rw [show r.length + 1 - 2 = r.length - 1 by omega]
    have hr : r.length - 1 < r.length := by omega
    have h34 : r[r.length - 1]? = some 34 := by
      rw [show r.length + 1 - 1 = (r.length - 1) + 1 by omega, List.getElem?_cons_succ] at h1
      exact h1
    conv => rhs; rw [← List.take_append_drop (r.length - 1) r]
    congr 1
    rw [List.drop_eq_getElem_cons hr]
    rw [List.getElem?_eq_getElem hr] at h34
    rw [Option.some.inj h34, List.drop_of_length_le (by omega)]

/-- The strict reader has read out, and rest is left. -/
theorem strict_fail {inner out rest : List UInt8} (h : inner = out.flatMap qB ++ rest) (hne : rest ≠ []) (hn : (nextL rest).2 = 0) : ∀ x : List UInt8, inner ≠ x.flatMap qB := by
  intro x hx
  obtain ⟨y, h1, _⟩ := flat_prefix out x rest (h.symm.trans hx)
  cases y with
  | nil => exact hne h1
  | cons c y =>
    rw [List.flatMap_cons] at h1
    rw [h1, nextL_qB] at hn
    simp only at hn
    have : qB c = [] := List.eq_nil_of_length_eq_zero hn
    have h2 := qB_ne c []
    rw [this] at h2
    exact h2 rfl
theorem strict_step {inner out rest : List UInt8} {c : UInt8} {n : Nat} (h : inner = out.flatMap qB ++ rest) (hx : nextL rest = (c, n)) (hn : n ≠ 0) : inner = (out ++ [c]).flatMap qB ++ rest.drop n := by
  rw [List.flatMap_append, List.append_assoc]
  simp only [List.flatMap_cons, List.flatMap_nil, List.append_nil]
  rw [← (nextL_ok hx hn).1]
  exact h

/-! ### The lenient reader -/
/-- What two digits say, or whatever. -/
def hbv (x y : Int) : Int := (bits .or .i64 (x * 16) (bits .and .i64 y 15)) % 256
def lstep : List UInt8 → UInt8 × Nat
  | [] => (0, 1)
  | a :: r => if a.toNat = 92 then match r with
      | [] => (a, 1)
      | b :: r' => if b.toNat = 120 then match r' with
          | c :: d :: _ => (UInt8.ofNat (hbv (digv c) (digv d)).toNat, 4)
          | _ => (b, 2)
        else (b, 2)
    else (a, 1)
def lenF : Nat → List UInt8 → List UInt8
  | 0, _ => []
  | _ + 1, [] => []
  | f + 1, a :: r => (lstep (a :: r)).1 :: lenF f ((a :: r).drop (lstep (a :: r)).2)
theorem lenF_nil (f : Nat) : lenF f [] = [] := by cases f <;> rfl
theorem lenF_succ {f : Nat} {l : List UInt8} (h : l ≠ []) : lenF (f + 1) l = (lstep l).1 :: lenF f (l.drop (lstep l).2) := by
  cases l with
  | nil => exact absurd rfl h
  | cons a r => rfl
theorem hbv_digits : ∀ x : Nat, x < 16 → ∀ y : Nat, y < 16 → hbv (x : Int) (y : Int) = 16 * x + y := by decide +kernel
theorem lstep_qB (b : UInt8) (t : List UInt8) : lstep (qB b ++ t) = (b, (qB b).length) := by
  have hb := b.toNat_lt
  unfold qB
  split
  · rename_i h
    simp only [List.cons_append, List.nil_append, lstep]
    rw [if_pos (by decide), if_neg (by omega)]
    rfl
  · rename_i h
    split
    · show (if b.toNat = 92 then _ else (b, 1)) = _
      rw [if_neg (by omega)]
      rfl
    · have h16 : b.toNat / 16 < 16 := by omega
      have h17 : b.toNat % 16 < 16 := by omega
      simp only [List.cons_append, List.nil_append, lstep]
      rw [if_pos (by decide), if_pos (by decide), digv_hexd h16, digv_hexd h17, hbv_digits _ h16 _ h17]
      have : (16 * ((b.toNat / 16 : Nat) : Int) + ((b.toNat % 16 : Nat) : Int)).toNat = b.toNat := by omega
      rw [this, UInt8.ofNat_toNat]
      rfl
theorem lenF_flat : ∀ (y : List UInt8) (f : Nat), y.length ≤ f → lenF f (y.flatMap qB) = y
  | [], f, _ => lenF_nil f
  | c :: y, 0, h => by simp at h
  | c :: y, f + 1, h => by
    rw [List.flatMap_cons, lenF_succ (qB_ne _ _), lstep_qB, List.drop_left, lenF_flat y f (by simpa using h)]
/-- The lenient reader has read out of inner, and rest is left. -/
def Len (inner out rest : List UInt8) : Prop := ∀ f, lenF (f + out.length) inner = out ++ lenF f rest
theorem Len.start (inner : List UInt8) : Len inner [] inner := fun _ => rfl
theorem Len.step {inner out rest : List UInt8} {c : UInt8} {n : Nat} (h : Len inner out rest) (hne : rest ≠ []) (hs : lstep rest = (c, n)) : Len inner (out ++ [c]) (rest.drop n) := by
  intro f
  have := h (f + 1)
  rw [lenF_succ hne, hs] at this
  rw [List.length_append, List.length_singleton, show f + (out.length + 1) = f + 1 + out.length by omega, this]
  simp
theorem Len.done {inner out y : List UInt8} (h : Len inner out []) (hy : inner = y.flatMap qB) : out = y := by
  have h1 := h y.length
  rw [lenF_nil, List.append_nil, hy, lenF_flat y _ (by omega)] at h1
  exact h1.symm
end Go.Proofs.Ythjcifokmcbaoaa.gl
/- Chapter 6 in plain words: what a file gives, and the file of lines. Laws on lists of bytes; no program in sight, no conditions beside those stated. -/
namespace Go.Proofs.Ythjcifokmcbaoaa.ini
open gl

def blk (b : UInt8) : Bool := b == 32 || b == 9
def triL (l : List UInt8) : List UInt8 := l.dropWhile blk
def triR (l : List UInt8) : List UInt8 := (l.reverse.dropWhile blk).reverse
def tri (l : List UInt8) : List UInt8 := triR (triL l)
def prn (l : List UInt8) : Bool := l.all fun b => decide (32 ≤ b.toNat ∧ b.toNat ≤ 126)
structure Ln where
  name : List UInt8
  text : List UInt8
  num : Int
/-- What a text means. -/
noncomputable def unqO (t : List UInt8) : Option (List UInt8) := if t.head? = some 34 then (if unqE t = 0 then some (unqL t) else none) else if prn t = true then some t else none
noncomputable def meantL (t : List UInt8) : Option (List UInt8) := match unqO t with
  | none => none
  | some s => if s.length ≤ 200 then some s else none
/-- What stands behind the bracket. -/
def secOk (p : List UInt8) : Bool := decide ((pcs 46 p).length ≤ 2) && (pcs 46 p).all partL
def secL (r : List UInt8) : Option (List UInt8) :=
  if r.getLast? = some 93 then (if r.dropLast = [] then some [] else if secOk r.dropLast = true then some (r.dropLast ++ [46]) else none) else none
def beforeE (x : List UInt8) : List UInt8 := x.takeWhile (· != 61)
def afterE (x : List UInt8) : List UInt8 := (x.dropWhile (· != 61)).drop 1
def there (out : List Ln) (n : List UInt8) : Bool := out.any fun y => decide (y.name = n)
noncomputable def givenL (ahead : List UInt8) (out : List Ln) (x : List UInt8) : Option (List UInt8 × List UInt8) :=
  if (61 : UInt8) ∈ x ∧ nameL (ahead ++ triR (beforeE x)) = true ∧ there out (ahead ++ triR (beforeE x)) = false then (meantL (triL (afterE x))).map fun t => (ahead ++ triR (beforeE x), t) else none
/-- One line, its blanks off: the section, and what is given. -/
noncomputable def lineT (ahead : List UInt8) (out : List Ln) : List UInt8 → Option (List UInt8 × Option (List UInt8 × List UInt8))
  | [] => some (ahead, none)
  | c :: r => if c = 59 ∨ c = 35 then some (ahead, none) else if c = 91 then (secL r).map fun a => (a, none) else (givenL ahead out (c :: r)).map fun p => (ahead, some p)
theorem lineT_cons (ahead : List UInt8) (out : List Ln) (c : UInt8) (r : List UInt8) : lineT ahead out (c :: r) = if c = 59 ∨ c = 35 then some (ahead, none) else if c = 91 then (secL r).map fun a => (a, none) else (givenL ahead out (c :: r)).map fun p => (ahead, some p) := rfl
noncomputable def lineL (ahead : List UInt8) (out : List Ln) (s : List UInt8) := lineT ahead out (tri s)
noncomputable def runL : Nat → List UInt8 → List Ln → List (List UInt8) → List Ln × Int × Int
  | _, _, out, [] => (out, 0, 0)
  | k, ahead, out, s :: ss => match lineL ahead out s with
    | none => ([], 60, (k : Int) + 1)
    | some (a, none) => runL (k + 1) a out ss
    | some (a, some (n, t)) => runL (k + 1) a (out ++ [⟨n, t, (k : Int) + 1⟩]) ss
noncomputable def parseL (l : List UInt8) : List Ln × Int × Int := if l.length ≤ 8000 then runL 0 [] [] (pcs 10 l) else ([], 61, 0)

/-! ### The file of lines -/
def bareL (t : List UInt8) : Bool := !t.isEmpty && prn t && decide (t.head? ≠ some 34) && decide (tri t = t)
def textL (t : List UInt8) : List UInt8 := if bareL t = true then t else quoteL t
def headL (x : Ln) : List UInt8 := x.name ++ [32, 61, 32] ++ textL x.text
def lineOut (x : Ln) : List UInt8 := headL x ++ [10]
def mayL (done : List Ln) (x : Ln) : Bool := nameL x.name && !there done x.name && decide (x.text.length ≤ 200)
def prL (done : List Ln) (out : List UInt8) : List Ln → List UInt8 × Int
  | [] => (out, 0)
  | x :: r => if mayL done x = true ∧ (out ++ lineOut x).length ≤ 8000 then prL (done ++ [x]) (out ++ lineOut x) r else ([], 1)
def printL (l : List Ln) : List UInt8 × Int := prL [] [] l

/-! ### Blanks -/
theorem tri_nil : tri [] = [] := rfl
theorem dropWhile_all {l : List UInt8} (h : ∀ b ∈ l, blk b = true) : l.dropWhile blk = [] := by
  induction l with
  | nil => rfl
  | cons c r ih => rw [List.dropWhile_cons, if_pos (h c (by simp))]; exact ih fun b hb => h b (by simp [hb])
theorem dropWhile_pre {p l : List UInt8} (h : ∀ b ∈ p, blk b = true) : (p ++ l).dropWhile blk = l.dropWhile blk := by
  induction p with
  | nil => rfl
  | cons c r ih => rw [List.cons_append, List.dropWhile_cons, if_pos (h c (by simp))]; exact ih fun b hb => h b (by simp [hb])
theorem triL_pre {p l : List UInt8} (h : ∀ b ∈ p, blk b = true) : triL (p ++ l) = triL l := dropWhile_pre h
theorem triR_suf {p l : List UInt8} (h : ∀ b ∈ p, blk b = true) : triR (l ++ p) = triR l := by
  unfold triR
  rw [List.reverse_append, dropWhile_pre fun b hb => h b (by simpa using hb)]
theorem triL_first {c : UInt8} {r : List UInt8} (h : blk c = false) : triL (c :: r) = c :: r := by
  unfold triL; rw [List.dropWhile_cons, if_neg (by simp [h])]
theorem triR_last {c : UInt8} {r : List UInt8} (h : blk c = false) : triR (r ++ [c]) = r ++ [c] := by
  unfold triR
  rw [List.reverse_append, List.reverse_singleton, List.singleton_append, List.dropWhile_cons, if_neg (by simp [h])]
  simp
theorem triL_suf {p l : List UInt8} (h : ∀ b ∈ p, blk b = true) : triL (l ++ p) = triL l ++ (if triL l = [] then [] else p) := by
  induction l with
  | nil => simp [triL, dropWhile_all h]
  | cons c r ih =>
    cases hc : blk c with
    | true =>
      have e1 : triL (c :: r ++ p) = triL (r ++ p) := by unfold triL; rw [List.cons_append, List.dropWhile_cons, if_pos hc]
      have e2 : triL (c :: r) = triL r := by unfold triL; rw [List.dropWhile_cons, if_pos hc]
      rw [e1, e2, ih]
    | false =>
      rw [List.cons_append, triL_first hc, triL_first hc, if_neg (by simp)]
      rfl
theorem tri_pre {p l : List UInt8} (h : ∀ b ∈ p, blk b = true) : tri (p ++ l) = tri l := by unfold tri; rw [triL_pre h]
theorem tri_suf {p l : List UInt8} (h : ∀ b ∈ p, blk b = true) : tri (l ++ p) = tri l := by
  unfold tri
  rw [triL_suf h]
  split
  · simp
  · exact triR_suf h
theorem takeWhile_blk {l : List UInt8} {b : UInt8} (h : b ∈ l.takeWhile blk) : blk b = true := by
  induction l with
  | nil => simp at h
  | cons c r ih =>
    rw [List.takeWhile_cons] at h
    split at h
    · rcases List.mem_cons.1 h with rfl | h
      · assumption
      · exact ih h
    · simp at h
theorem triR_nil_or (l : List UInt8) : triR l = [] ∨ ∃ r c, triR l = r ++ [c] ∧ blk c = false := by
  unfold triR
  cases h : l.reverse.dropWhile blk with
  | nil => left; rfl
  | cons c r =>
    right
    refine ⟨r.reverse, c, by simp, ?_⟩
    have := List.head?_dropWhile_not blk l.reverse
    rw [h] at this
    simpa using this
theorem triL_nil_or (l : List UInt8) : triL l = [] ∨ ∃ r c, triL l = c :: r ∧ blk c = false := by
  unfold triL
  cases h : l.dropWhile blk with
  | nil => left; rfl
  | cons c r =>
    right
    refine ⟨r, c, rfl, ?_⟩
    have := List.head?_dropWhile_not blk l
    rw [h] at this
    simpa using this
theorem triR_prefix (l : List UInt8) : ∃ p, l = triR l ++ p ∧ ∀ b ∈ p, blk b = true := by
  refine ⟨(l.reverse.takeWhile blk).reverse, ?_, fun b hb => ?_⟩
  · unfold triR
    rw [← List.reverse_append, List.takeWhile_append_dropWhile, List.reverse_reverse]
  · exact takeWhile_blk (by simpa using hb)
theorem triL_suffix (l : List UInt8) : ∃ p, l = p ++ triL l ∧ ∀ b ∈ p, blk b = true := by
  refine ⟨l.takeWhile blk, ?_, fun b hb => takeWhile_blk hb⟩
  unfold triL
  rw [List.takeWhile_append_dropWhile]
/-- What is trimmed begins and ends with no blank. -/
theorem tri_ends (l : List UInt8) : tri l = [] ∨ (∃ r c, tri l = c :: r ∧ blk c = false) ∧ ∃ r c, tri l = r ++ [c] ∧ blk c = false := by
  rcases triR_nil_or (triL l) with h | ⟨r, c, h, hc⟩
  · exact .inl h
  · right
    refine ⟨?_, r, c, h, hc⟩
    rcases triL_nil_or l with h2 | ⟨r2, d, h2, hd⟩
    · unfold triR at h; rw [h2] at h; simp at h
    · obtain ⟨p, hp, _⟩ := triR_prefix (triL l)
      rw [h, h2] at hp
      show ∃ r c, triR (triL l) = c :: r ∧ blk c = false
      rw [h]
      cases r with
      | nil => exact ⟨[], c, rfl, hc⟩
      | cons a r' =>
        simp at hp
        exact ⟨r' ++ [c], a, rfl, by rw [← hp.1]; exact hd⟩
theorem tri_len (l : List UInt8) : (tri l).length ≤ l.length := by
  obtain ⟨p, hp, _⟩ := triR_prefix (triL l)
  obtain ⟨q, hq, _⟩ := triL_suffix l
  have h1 := congrArg List.length hp
  have h2 := congrArg List.length hq
  simp at h1 h2
  show (triR (triL l)).length ≤ _
  omega
theorem triR_len (l : List UInt8) : (triR l).length ≤ l.length := by
  obtain ⟨p, hp, _⟩ := triR_prefix l
  have h1 := congrArg List.length hp
  simp at h1
  omega
theorem triL_len (l : List UInt8) : (triL l).length ≤ l.length := by
  obtain ⟨p, hp, _⟩ := triL_suffix l
  have h1 := congrArg List.length hp
  simp at h1
  omega
/-- Lines that are the same without their blanks give the same. -/
theorem runL_congr : ∀ (k : Nat) (a : List UInt8) (out : List Ln) (ss tt : List (List UInt8)), ss.map tri = tt.map tri → runL k a out ss = runL k a out tt
  | k, a, out, [], [], _ => rfl
  | k, a, out, [], t :: tt, h => by simp at h
  | k, a, out, s :: ss, [], h => by simp at h
  | k, a, out, s :: ss, t :: tt, h => by
    simp only [List.map_cons, List.cons.injEq] at h
    have e : lineL a out s = lineL a out t := by unfold lineL; rw [h.1]
    rw [runL, runL, e]
    split
    · rfl
    · exact runL_congr _ _ _ _ _ h.2
    · exact runL_congr _ _ _ _ _ h.2
end Go.Proofs.Ythjcifokmcbaoaa.ini
