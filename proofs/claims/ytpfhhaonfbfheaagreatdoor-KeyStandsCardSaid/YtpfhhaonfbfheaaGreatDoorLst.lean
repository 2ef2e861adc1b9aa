/- Laws on memory for any program: lists of structs that are marked by their owner, then grown, one by one. No program in sight; no conditions beside those stated. -/
import Derived.Test.YtpfhhaonfbfheaaGreatDoorMem
import Derived.Laws.IdiomCopy
import Derived.WalkKit
import Derived.ArgAppend
namespace Go.Proofs.YtpfhhaonfbfheaaGreatDoor.ls
open Go.RowKit

theorem lt_get {α : Type} {l : List α} {x : α} {i : Nat} (h : l[i]? = some x) : i < l.length := by
  rcases Nat.lt_or_ge i l.length with h1 | h1
  · exact h1
  · rw [List.getElem?_eq_none h1] at h; cases h
theorem get_snoc {α : Type} {l : List α} {x y : α} {i : Nat} (h : (l ++ [x])[i]? = some y) : l[i]? = some y ∨ (i = l.length ∧ y = x) := by
  rcases Nat.lt_or_ge i l.length with h1 | h1
  · rw [List.getElem?_append_left h1] at h; exact .inl h
  · rw [List.getElem?_append_right h1] at h
    have := lt_get h
    simp at this
    have hi : i = l.length := by omega
    subst hi
    simp at h
    exact .inr ⟨rfl, h.symm⟩
theorem addN (g o k : Nat) : (⟨g, o, none⟩ : Addr).add k = ⟨g, o + k, none⟩ := by unfold Addr.add; split <;> simp_all

/-- The cells from o on. -/
def At (cs : Array Value) (o : Nat) (m : List Value) : Prop := ∀ (i : Nat) (v : Value), m[i]? = some v → cs[o + i]? = some v
def setR : Array Value → Nat → List Value → Array Value
  | cs, _, [] => cs
  | cs, o, v :: r => setR (cs.setIfInBounds o v) (o + 1) r
theorem setR_size : ∀ (vs : List Value) (cs : Array Value) (o : Nat), (setR cs o vs).size = cs.size
  | [], _, _ => rfl
  | v :: r, cs, o => by rw [setR, setR_size r]; simp
theorem setR_out : ∀ (vs : List Value) (cs : Array Value) (o i : Nat), i < o ∨ o + vs.length ≤ i → (setR cs o vs)[i]? = cs[i]?
  | [], _, _, _, _ => rfl
  | v :: r, cs, o, i, h => by
    rw [setR, setR_out r _ _ _ (by simp at h; omega), Array.getElem?_setIfInBounds_ne (by simp at h; omega)]
theorem setR_in : ∀ (vs : List Value) (cs : Array Value) (o : Nat), o + vs.length ≤ cs.size → At (setR cs o vs) o vs
  | [], _, _, _ => fun i v h => by simp at h
  | u :: r, cs, o, h => by
    intro i v hi
    rw [setR]
    cases i with
    | zero =>
      simp at hi
      subst hi
      rw [setR_out r _ _ _ (by omega), Nat.add_zero, Array.getElem?_setIfInBounds_self_of_lt (by simp at h; omega)]
    | succ i =>
      have := setR_in r (cs.setIfInBounds o u) (o + 1) (by simp at h ⊢; omega) i v (by simpa using hi)
      rwa [show o + 1 + i = o + (i + 1) by omega] at this
theorem At.out {cs : Array Value} {o o' : Nat} {m vs : List Value} (h : At cs o' m) (hd : o' + m.length ≤ o ∨ o + vs.length ≤ o') : At (setR cs o vs) o' m := by
  intro i v hi
  have := lt_get hi
  rw [setR_out vs cs o (o' + i) (by omega)]
  exact h i v hi
theorem heap_setCells {g : Nat} {T : TypeId} {f : Nat × Nat} : ∀ (vs : List Value) (w : World) (cs : Array Value) (o : Nat), w.heap[g]? = some (.cells cs T f) → (w.setCells g o vs).heap[g]? = some (.cells (setR cs o vs) T f)
  | [], _, _, _, h => h
  | v :: r, _w, _cs, _o, h => heap_setCells r _ _ _ (heap_set h v)
theorem heap_setCells_ne {g k : Nat} (hne : k ≠ g) : ∀ (vs : List Value) (w : World) (o : Nat), (w.setCells g o vs).heap[k]? = w.heap[k]?
  | [], _, _ => rfl
  | v :: r, w, o => by rw [World.setCells, heap_setCells_ne hne r, Below.heap_setCell w ⟨g, o, none⟩ v k hne]
theorem setCells_size {g : Nat} : ∀ (vs : List Value) (w : World) (o : Nat), (w.setCells g o vs).heap.size = w.heap.size
  | [], _, _ => rfl
  | v :: r, w, o => by rw [World.setCells, setCells_size r]; simp [World.setCell]
theorem below_setCells {B g : Nat} {w0 : World} (hg : B ≤ g) : ∀ (vs : List Value) (w : World) (o : Nat), Below B w0 w → Below B w0 (w.setCells g o vs)
  | [], _, _, h => h
  | v :: r, _w, _o, h => below_setCells hg r _ _ (h.setCell hg v)
theorem upd_setCells {S : List Nat} {g : Nat} {a : World} (hg : g ∈ S ∨ a.heap.size ≤ g) : ∀ (vs : List Value) (w : World) (o : Nat), Upd S a w → Upd S a (w.setCells g o vs)
  | [], _, _, h => h
  | v :: r, _w, o, h => upd_setCells hg r _ _ (h.setCell (p := ⟨g, o, none⟩) hg v)

section
variable (T TL : TypeId) (sz : Nat) (mk : Nat → List Value) (d B M : Nat)
/-- A block of structs of type T. -/
def SB (w : World) (g : Nat) (cs : Array Value) : Prop := w.heap[g]? = some (.cells cs T (0, 0))
def SK (w w' : World) : Prop := ∀ g cs, SB T w g cs → SB T w' g cs
structure LR where
  p : Option Addr
  n : Nat
  c : Nat
def LR.v (R : LR) : Value := .slice R.p R.n R.c
/-- One list, in a block from B on, below M; its first q elements are marked. -/
def HoldR (w : World) (i : Nat) (R : LR) (q : Nat) : Prop :=
  R.n ≤ 4294967295 ∧ R.n ≤ R.c ∧ ((R.p = none ∧ R.n = 0 ∧ R.c = 0) ∨ ∃ g cs, R.p = some ⟨g, 0, none⟩ ∧ B ≤ g ∧ g < M ∧ SB T w g cs ∧ R.c * sz ≤ cs.size ∧ ∀ j, j < q → j < R.n → At cs (j * sz) (mk i))
/-- All lists from k on; of list i cnt i elements are marked. -/
def Hold (w : World) (rs : List LR) (k : Nat) (cnt : Nat → Nat) : Prop := ∀ (i : Nat) (R : LR), k ≤ i → rs[i]? = some R → HoldR T sz mk B M w i R (cnt i)
def Dist (rs : List LR) : Prop := ∀ (i j : Nat) (Ri Rj : LR) (g : Nat), rs[i]? = some Ri → rs[j]? = some Rj → Ri.p = some ⟨g, 0, none⟩ → Rj.p = some ⟨g, 0, none⟩ → i = j
def cntAt (i j : Nat) : Nat → Nat := fun k => if k < i then 4294967295 else if k = i then j else 0
/-- The lists, in a row. -/
def LRow (w : World) (gl : Nat) (rs : List LR) : Prop := ∃ cl, w.heap[gl]? = some (.cells cl TL (0, 0)) ∧ ∀ (i : Nat) (R : LR), rs[i]? = some R → cl[i]? = some R.v
/-- A list that has i's mark alone. -/
def Ent (w : World) (v : Value) (i : Nat) : Prop := ∃ p n c, v = .slice p n c ∧ n ≤ 8589934592 ∧ n ≤ c ∧ (n = 0 ∨ ∃ g cs, p = some ⟨g, 0, none⟩ ∧ SB T w g cs ∧ ∀ j, j < n → At cs (j * sz) (mk i))
def Ents (w : World) (vals : List Value) : Prop := ∀ (t : Nat) (v : Value), vals[t]? = some v → Ent T sz mk w v (t / d)
/-- Where the lists that were collected lie. -/
def Src (rs : List LR) (vals : List Value) : Prop := ∀ (t g n c : Nat), vals[t]? = some (Value.slice (some ⟨g, 0, none⟩) n c) → M ≤ g ∨ ∃ R : LR, rs[t / d]? = some R ∧ R.p = some ⟨g, 0, none⟩
/-- The list that is grown. -/
def XS (w : World) (p : Option Addr) (n c i : Nat) : Prop :=
  (p = none ∧ n = 0 ∧ c = 0) ∨ ∃ g cs, p = some ⟨g, 0, none⟩ ∧ SB T w g cs ∧ n ≤ c ∧ c * sz ≤ cs.size ∧ ∀ j, j < n → At cs (j * sz) (mk i)
def Share (vals : List Value) (p : Option Addr) (n : Nat) : Prop := ∀ (t g n' c' : Nat), vals[t]? = some (Value.slice (some ⟨g, 0, none⟩) n' c') → p = some ⟨g, 0, none⟩ → n' ≤ n
structure Ph (rs : List LR) (gl : Nat) (w wr : World) (k m : Nat) (al : Value) (vals : List Value) : Prop where
  own : wr.ownsRow M TL 1 al m vals
  ents : Ents T sz mk d wr vals
  src : Src d M rs vals
  rest : Hold T sz mk B M wr rs k (cntAt rs.length 0)
  row : LRow TL wr gl rs
  bel : Below B w wr
  size : M ≤ wr.heap.size
structure Gr (rs : List LR) (wr : World) (k : Nat) (vals : List Value) (p : Option Addr) (n c : Nat) : Prop where
  xs : XS T sz mk wr p n c k
  sh : Share vals p n
  at_ : ∀ g, p = some ⟨g, 0, none⟩ → (B ≤ g ∧ (M ≤ g ∨ ∃ R : LR, rs[k]? = some R ∧ R.p = some ⟨g, 0, none⟩))
end

section
variable {T TL : TypeId} {sz : Nat} {mk : Nat → List Value} {d B M : Nat} {w w' wr w1 : World} {rs : List LR} {gl k m n c i : Nat} {p : Option Addr} {al : Value} {vals : List Value}
theorem SK.of_below (hb : Below w.heap.size w w') : SK T w w' := fun g _ h => (hb.block g (lt_of_block h)).trans h
theorem SK.trans {a b e : World} (h : SK T a b) (h2 : SK T b e) : SK T a e := fun g cs h3 => h2 g cs (h g cs h3)
theorem SK.own {base : Nat} {v : Value} {xs : List Value} {s : Nat} (hT : T ≠ TL) (ho : w.ownsRow base TL s v n xs) (hg : w.grownBy w' v.ownBlock) : SK T w w' := by
  intro g cs h
  refine (hg.block g (lt_of_block h) ?_).trans h
  intro e
  rcases ho.2 with ⟨rfl, _⟩ | ⟨k, cap, cur, rfl, _, hk, _⟩
  · cases e
  · exact ne_of_types h hk hT (Option.some.inj e)
theorem HoldR.keep {R : LR} {q : Nat} (h : HoldR T sz mk B M w i R q) (hk : SK T w w') : HoldR T sz mk B M w' i R q := by
  obtain ⟨h1, h2, h3⟩ := h
  refine ⟨h1, h2, ?_⟩
  rcases h3 with h3 | ⟨g, cs, h3, h4, h5, h6, h7⟩
  · exact .inl h3
  · exact .inr ⟨g, cs, h3, h4, h5, hk g cs h6, h7⟩
theorem HoldR.upM {R : LR} {q M' : Nat} (h : HoldR T sz mk B M w i R q) (hM : M ≤ M') : HoldR T sz mk B M' w i R q := by
  obtain ⟨h1, h2, h3⟩ := h
  refine ⟨h1, h2, ?_⟩
  rcases h3 with h3 | ⟨g, cs, h3, h4, h5, h6, h7⟩
  · exact .inl h3
  · exact .inr ⟨g, cs, h3, h4, by omega, h6, h7⟩
theorem HoldR.more {R : LR} {q q' : Nat} (h : HoldR T sz mk B M w i R q) (hq : q' ≤ q ∨ R.n ≤ q) : HoldR T sz mk B M w i R q' := by
  obtain ⟨h1, h2, h3⟩ := h
  refine ⟨h1, h2, ?_⟩
  rcases h3 with h3 | ⟨g, cs, h3, h4, h5, h6, h7, h8⟩
  · exact .inl h3
  · exact .inr ⟨g, cs, h3, h4, h5, h6, h7, fun j hj hn => h8 j (by omega) hn⟩
theorem Hold.keep {cnt : Nat → Nat} (h : Hold T sz mk B M w rs k cnt) (hk : SK T w w') : Hold T sz mk B M w' rs k cnt := fun i R hi hR => (h i R hi hR).keep hk
theorem Hold.upM {cnt : Nat → Nat} {M' : Nat} (h : Hold T sz mk B M w rs k cnt) (hM : M ≤ M') : Hold T sz mk B M' w rs k cnt := fun i R hi hR => (h i R hi hR).upM hM
theorem Hold.next {j : Nat} (h : Hold T sz mk B M w rs 0 (cntAt i j)) (hj : ∀ R : LR, rs[i]? = some R → R.n ≤ j) : Hold T sz mk B M w rs 0 (cntAt (i + 1) 0) := by
  intro k R hk hR
  refine (h k R hk hR).more ?_
  unfold cntAt
  rcases Nat.lt_trichotomy k i with h1 | h1 | h1
  · left; rw [if_pos (by omega), if_pos h1]; omega
  · right
    subst h1
    rw [if_neg (by omega), if_pos rfl]
    exact hj R hR
  · left
    rw [if_neg (by omega)]
    split <;> omega
theorem Hold.mark {j g : Nat} {R : LR} (hmk : (mk i).length = sz) (h : Hold T sz mk B M w rs 0 (cntAt i j)) (hd : Dist rs) (hR : rs[i]? = some R) (hp : R.p = some ⟨g, 0, none⟩) (hj : j < R.n) : Hold T sz mk B M (w.setCells g (j * sz) (mk i)) rs 0 (cntAt i (j + 1)) := by
  intro k S hk hS
  obtain ⟨h1, h2, h3⟩ := h k S hk hS
  refine ⟨h1, h2, ?_⟩
  rcases h3 with h3 | ⟨q, cs, h3, h4, h5, h6, h7, h8⟩
  · exact .inl h3
  · right
    by_cases hki : k = i
    · subst hki
      rw [hR] at hS
      obtain rfl := Option.some.inj hS
      rw [hp] at h3
      obtain rfl : g = q := by simpa using h3
      have hmul : (j + 1) * sz ≤ R.c * sz := Nat.mul_le_mul_right _ (by omega)
      rw [Nat.add_mul, Nat.one_mul] at hmul
      refine ⟨g, setR cs (j * sz) (mk k), hp, h4, h5, heap_setCells _ _ _ _ h6, by rw [setR_size]; exact h7, fun t ht htn => ?_⟩
      by_cases htj : t = j
      · subst htj
        exact setR_in _ _ _ (by rw [hmk]; omega)
      · refine (h8 t ?_ htn).out ?_
        · unfold cntAt at ht ⊢
          rw [if_neg (by omega), if_pos rfl] at ht ⊢
          omega
        · rw [hmk]
          rcases Nat.lt_or_ge t j with h9 | h9
          · have := Nat.mul_le_mul_right sz (show t + 1 ≤ j by omega)
            rw [Nat.add_mul, Nat.one_mul] at this
            omega
          · have := Nat.mul_le_mul_right sz (show j + 1 ≤ t by omega)
            rw [Nat.add_mul, Nat.one_mul] at this
            omega
    · have hne : q ≠ g := by
        rintro rfl
        exact hki (hd k i S R q hS hR h3 hp)
      refine ⟨q, cs, h3, h4, h5, (heap_setCells_ne hne _ _ _).trans h6, h7, fun t ht htn => h8 t ?_ htn⟩
      unfold cntAt at ht ⊢
      rw [if_neg hki] at ht ⊢
      exact ht
theorem LRow.below (h : LRow TL w gl rs) (hb : Below w.heap.size w w') : LRow TL w' gl rs := by
  obtain ⟨cl, h1, h2⟩ := h
  exact ⟨cl, (hb.block _ (lt_of_block h1)).trans h1, h2⟩
theorem LRow.set {g o : Nat} {cs : Array Value} {vs : List Value} (hT : T ≠ TL) (h : LRow TL w gl rs) (hs : SB T w g cs) : LRow TL (w.setCells g o vs) gl rs := by
  obtain ⟨cl, h1, h2⟩ := h
  exact ⟨cl, (heap_setCells_ne (ne_of_types h1 hs (Ne.symm hT)) _ _ _).trans h1, h2⟩
theorem LRow.own {base s : Nat} {v : Value} {xs : List Value} (h : LRow TL w gl rs) (ho : w.ownsRow base TL s v n xs) (hgl : gl < base) (hg : w.grownBy w' v.ownBlock) : LRow TL w' gl rs := by
  obtain ⟨cl, h1, h2⟩ := h
  refine ⟨cl, (hg.block gl (lt_of_block h1) ?_).trans h1, h2⟩
  intro e
  have := (ho.lt gl e.symm).1
  omega
theorem LRow.cell (h : LRow TL w gl rs) {R : LR} (hR : rs[i]? = some R) : w.cell? ⟨gl, i, none⟩ = some (.slice R.p R.n R.c) := by
  obtain ⟨cl, h1, h2⟩ := h
  rw [cell_in h1, h2 i R hR]
  rfl
theorem LRow.lt (h : LRow TL w gl rs) : gl < w.heap.size := by obtain ⟨_, h1, _⟩ := h; exact lt_of_block h1
theorem Ent.keep {v : Value} (h : Ent T sz mk w v i) (hk : SK T w w') : Ent T sz mk w' v i := by
  obtain ⟨p, n, c, h1, h2, hc, h3⟩ := h
  refine ⟨p, n, c, h1, h2, hc, ?_⟩
  rcases h3 with h3 | ⟨g, cs, h4, h5, h6⟩
  · exact .inl h3
  · exact .inr ⟨g, cs, h4, hk g cs h5, h6⟩
theorem Ents.keep (h : Ents T sz mk d w vals) (hk : SK T w w') : Ents T sz mk d w' vals := fun t v hv => (h t v hv).keep hk
theorem XS.keep (h : XS T sz mk w p n c i) (hk : SK T w w') : XS T sz mk w' p n c i := by
  rcases h with h | ⟨g, cs, h1, h2, h3⟩
  · exact .inl h
  · exact .inr ⟨g, cs, h1, hk g cs h2, h3⟩
theorem XS.le (h : XS T sz mk w p n c i) : n ≤ c := by
  rcases h with ⟨_, h1, h2⟩ | ⟨_, _, _, _, h, _⟩ <;> omega
theorem XS.ent (h : XS T sz mk w p n c i) (hn : n ≤ 8589934592) : Ent T sz mk w (.slice p n c) i := by
  refine ⟨p, n, c, rfl, hn, h.le, ?_⟩
  rcases h with ⟨_, h, _⟩ | ⟨g, cs, h1, h2, _, _, h3⟩
  · exact .inl h
  · exact .inr ⟨g, cs, h1, h2, h3⟩
theorem own_kept {base size : Nat} {e : TypeId} {v : Value} {xs : List Value} (ho : w.ownsRow base e size v n xs) (hb : Below w.heap.size w w') : w'.ownsRow base e size v n xs := (Upd.of_below hb []).row ho (fun _ _ h => by cases h)
theorem own_set {base s g o : Nat} {v : Value} {xs vs : List Value} {cs : Array Value} (hT : T ≠ TL) (ho : w.ownsRow base TL s v n xs) (hs : SB T w g cs) : (w.setCells g o vs).ownsRow base TL s v n xs := by
  refine (upd_setCells (S := [g]) (a := w) (.inl (by simp)) vs w o (Upd.refl _ w)).row ho fun q hq hm => ?_
  obtain rfl : q = g := by simpa using hm
  rcases ho.2 with ⟨rfl, _⟩ | ⟨k, cap, cur, rfl, _, hk, _⟩
  · cases hq
  · exact ne_of_types hs hk hT (Option.some.inj hq).symm
theorem below_none (h : w.grownBy w' none) : Below w.heap.size w w' := ⟨h.os, h.tape, h.output, h.size, fun k hk => h.block k hk (by simp)⟩

/-- The next list is grown. -/
theorem Ph.begin (h : Ph T TL sz mk d B M rs gl w wr k m al vals) {R : LR} (hR : rs[k]? = some R) (hd : Dist rs) (hm : m = d * k) (hvl : vals.length = m) (hd0 : 0 < d) :
    Ph T TL sz mk d B M rs gl w wr (k + 1) m al vals ∧ Gr T sz mk B M rs wr k vals R.p R.n R.c := by
  refine ⟨⟨h.own, h.ents, h.src, fun i S hi hS => h.rest i S (by omega) hS, h.row, h.bel, h.size⟩, ?_⟩
  obtain ⟨h1, h2, h3⟩ := h.rest k R (Nat.le_refl _) hR
  have hk : k < rs.length := lt_get hR
  refine ⟨?_, ?_, ?_⟩
  · rcases h3 with h3 | ⟨g, cs, h3, h4, h5, h6, h7, h8⟩
    · exact .inl h3
    · refine .inr ⟨g, cs, h3, h6, h2, h7, fun j hj => h8 j ?_ hj⟩
      unfold cntAt
      rw [if_pos hk]
      omega
  · intro t g n' c' ht hp
    exfalso
    rcases h3 with ⟨h3, _⟩ | ⟨g', cs, h3, h4, h5, _⟩
    · rw [hp] at h3; cases h3
    · rw [hp] at h3
      obtain rfl : g = g' := by simpa using h3
      rcases h.src t g n' c' ht with h6 | ⟨S, h6, h7⟩
      · omega
      · have h8 := hd _ _ S R g h6 hR h7 hp
        have h9 := lt_get ht
        have : t / d < k := (Nat.div_lt_iff_lt_mul hd0).2 (by rw [Nat.mul_comm]; omega)
        omega
  · intro g hp
    rcases h3 with ⟨h3, _⟩ | ⟨g', cs, h3, h4, h5, _⟩
    · rw [hp] at h3; cases h3
    · rw [hp] at h3
      obtain rfl : g = g' := by simpa using h3
      exact ⟨h4, .inr ⟨R, hR, hp⟩⟩
/-- The list is collected. -/
theorem Ph.push (hT : T ≠ TL) (h : Ph T TL sz mk d B M rs gl w wr (k + 1) m al vals) (hg : Gr T sz mk B M rs wr k vals p n c) {al' : Value} (ho : w1.ownsRow M TL 1 al' (m + 1) (vals ++ [.slice p n c])) (hgr : wr.grownBy w1 al.ownBlock) (hm : m / d = k) (hn : n ≤ 8589934592) (hgl : gl < M) (hBM : B ≤ M) :
    Ph T TL sz mk d B M rs gl w w1 (k + 1) (m + 1) al' (vals ++ [.slice p n c]) ∧ Gr T sz mk B M rs w1 k (vals ++ [.slice p n c]) p n c := by
  have hk : SK T wr w1 := SK.own hT h.own hgr
  have hvl : vals.length = m := by have := h.own.1; simpa using this
  have hsz := hgr.size
  refine ⟨⟨ho, ?_, ?_, h.rest.keep hk, h.row.own h.own hgl hgr, h.bel.grown hgr (by have := h.size; omega) fun q hq => by have := (h.own.lt q hq).1; omega, by have := h.size; omega⟩, hg.xs.keep hk, ?_, hg.at_⟩
  · intro t v hv
    rcases get_snoc hv with hv | ⟨rfl, rfl⟩
    · exact (h.ents t v hv).keep hk
    · rw [hvl, hm]; exact (hg.xs.keep hk).ent hn
  · intro t g n' c' ht
    rcases get_snoc ht with ht | ⟨rfl, he⟩
    · exact h.src t g n' c' ht
    · cases he
      rw [hvl, hm]
      exact (hg.at_ g rfl).2
  · intro t g n' c' ht hp
    rcases get_snoc ht with ht | ⟨rfl, he⟩
    · exact hg.sh t g n' c' ht hp
    · cases he; exact Nat.le_refl _
theorem Ph.below (h : Ph T TL sz mk d B M rs gl w wr k m al vals) (hb : Below wr.heap.size wr w1) (hBM : B ≤ M) : Ph T TL sz mk d B M rs gl w w1 k m al vals :=
  ⟨own_kept h.own hb, h.ents.keep (SK.of_below hb), h.src, h.rest.keep (SK.of_below hb), h.row.below hb, h.bel.trans (hb.mono (by have := h.size; omega)), by have := h.size; have := hb.size; omega⟩
theorem Gr.below (h : Gr T sz mk B M rs wr k vals p n c) (hb : Below wr.heap.size wr w1) : Gr T sz mk B M rs w1 k vals p n c := ⟨h.xs.keep (SK.of_below hb), h.sh, h.at_⟩
/-- The list grows into its room. -/
theorem Ph.room {g : Nat} (hT : T ≠ TL) (hmk : ∀ i, (mk i).length = sz) (hd : Dist rs) (h : Ph T TL sz mk d B M rs gl w wr (k + 1) m al vals) (hg : Gr T sz mk B M rs wr k vals (some ⟨g, 0, none⟩) n c) (hr : n + 1 ≤ c) :
    Ph T TL sz mk d B M rs gl w (wr.setCells g (n * sz) (mk k)) (k + 1) m al vals ∧ Gr T sz mk B M rs (wr.setCells g (n * sz) (mk k)) k vals (some ⟨g, 0, none⟩) (n + 1) c := by
  obtain ⟨cs, hsb, hnc, hcs, hall⟩ : ∃ cs, SB T wr g cs ∧ n ≤ c ∧ c * sz ≤ cs.size ∧ ∀ j, j < n → At cs (j * sz) (mk k) := by
    rcases hg.xs with ⟨h, _⟩ | ⟨g', cs, h1, h2⟩
    · cases h
    · obtain rfl : g = g' := by simpa using h1
      exact ⟨cs, h2⟩
  have hmul : (n + 1) * sz ≤ c * sz := Nat.mul_le_mul_right _ hr
  rw [Nat.add_mul, Nat.one_mul] at hmul
  have hlow : ∀ j, j < n → j * sz + sz ≤ n * sz := fun j hj => by
    have := Nat.mul_le_mul_right sz (show j + 1 ≤ n by omega)
    rw [Nat.add_mul, Nat.one_mul] at this
    exact this
  refine ⟨⟨own_set hT h.own hsb, ?_, h.src, ?_, h.row.set hT hsb, below_setCells (hg.at_ g rfl).1 _ _ _ h.bel, by rw [setCells_size]; exact h.size⟩, ?_, ?_, hg.at_⟩
  · intro t v hv
    obtain ⟨q, n', c', rfl, h2, h3, h4⟩ := h.ents t v hv
    refine ⟨q, n', c', rfl, h2, h3, ?_⟩
    rcases h4 with h4 | ⟨g', cs', rfl, h5, h6⟩
    · exact .inl h4
    · right
      by_cases hgg : g' = g
      · subst hgg
        have hle := hg.sh t g' n' c' hv rfl
        refine ⟨g', _, rfl, heap_setCells _ _ _ _ h5, fun j hj => (h6 j hj).out (.inl ?_)⟩
        rw [hmk]
        exact hlow j (by omega)
      · exact ⟨g', cs', rfl, (heap_setCells_ne hgg _ _ _).trans h5, h6⟩
  · intro i S hi hS
    obtain ⟨h1, h2, h3⟩ := h.rest i S hi hS
    refine ⟨h1, h2, ?_⟩
    rcases h3 with h3 | ⟨q, cs', h3, h4, h5, h6, h7⟩
    · exact .inl h3
    · have hne : q ≠ g := by
        rintro rfl
        rcases (hg.at_ q rfl).2 with h8 | ⟨R, h8, h9⟩
        · omega
        · have := hd _ _ S R q hS h8 h3 h9; omega
      exact .inr ⟨q, cs', h3, h4, h5, (heap_setCells_ne hne _ _ _).trans h6, h7⟩
  · refine .inr ⟨g, _, rfl, heap_setCells _ _ _ _ hsb, hr, by rw [setR_size]; exact hcs, fun j hj => ?_⟩
    by_cases hjn : j = n
    · subst hjn
      exact setR_in _ _ _ (by rw [hmk]; omega)
    · exact (hall j (by omega)).out (.inl (by rw [hmk]; exact hlow j (by omega)))
  · intro t q n' c' ht hp
    have := hg.sh t q n' c' ht hp
    omega
/-- The list grows into a new block. -/
theorem Gr.grow {base : Nat} {v : Value} {olds : List Value} (hmk : ∀ i, (mk i).length = sz) (_hs0 : 0 < sz) (hg : Gr T sz mk B M rs wr k vals p n c) (he : Ents T sz mk d wr vals) (ho : w1.ownsRow base T sz v (n + 1) (olds ++ mk k)) (hbase : wr.heap.size ≤ base) (hM : M ≤ wr.heap.size) (hBM : B ≤ M) (hl : olds.length = n * sz)
    (ha : ∀ j, j < n → ∀ (i : Nat) u, (mk k)[i]? = some u → olds[j * sz + i]? = some u) : ∃ g c', v = .slice (some ⟨g, 0, none⟩) (n + 1) c' ∧ Gr T sz mk B M rs w1 k vals (some ⟨g, 0, none⟩) (n + 1) c' := by
  rcases ho.2 with ⟨_, h0⟩ | ⟨g, cap, cur, rfl, hgb, hb, hnc, hcm, hcs, htake⟩
  · omega
  · refine ⟨g, cap, rfl, .inr ⟨g, cur, rfl, hb, hnc, by omega, fun j hj i u hu => ?_⟩, ?_, ?_⟩
    · have hi := lt_get hu
      rw [hmk] at hi
      have hlow : j * sz + sz ≤ (n + 1) * sz := by
        have := Nat.mul_le_mul_right sz (show j + 1 ≤ n + 1 by omega)
        rw [Nat.add_mul, Nat.one_mul] at this
        exact this
      have h1 : (olds ++ mk k)[j * sz + i]? = some u := by
        rcases Nat.lt_or_ge j n with h | h
        · have hj2 : j * sz + sz ≤ n * sz := by
            have := Nat.mul_le_mul_right sz (show j + 1 ≤ n by omega)
            rw [Nat.add_mul, Nat.one_mul] at this
            exact this
          rw [List.getElem?_append_left (by omega)]
          exact ha j h i u hu
        · obtain rfl : j = n := by omega
          rw [List.getElem?_append_right (by omega), hl, show j * sz + i - j * sz = i by omega]
          exact hu
      rw [← htake, List.getElem?_take_of_lt (by omega)] at h1
      rwa [Array.getElem?_toList] at h1
    · intro t q n' c' ht hp
      obtain rfl : g = q := by simpa using hp
      obtain ⟨p', m', d', hev, _, _, h3⟩ := he t _ ht
      cases hev
      rcases h3 with h3 | ⟨q, cs, hq, h5, _⟩
      · omega
      · obtain rfl : g = q := by simpa using hq
        have := lt_of_block h5
        omega
    · intro q hq
      obtain rfl : g = q := by simpa using hq
      exact ⟨by omega, .inl (by omega)⟩
/-- The cells of the list that is grown. -/
theorem XS.olds (hmk : ∀ i, (mk i).length = sz) (_hs0 : 0 < sz) (h : XS T sz mk w p n c k) : ∃ olds : List Value, olds.length = n * sz ∧ (∀ j, j < n → ∀ (i : Nat) u, (mk k)[i]? = some u → olds[j * sz + i]? = some u) ∧ (∀ b, p = some b → ∀ j u, olds[j]? = some u → w.cell? (b.add j) = some u) ∧ (p = none → n = 0 ∧ c = 0) := by
  rcases h with ⟨h1, h2, h3⟩ | ⟨g, cs, h1, h2, h3, h4, h5⟩
  · exact ⟨[], by simp [h2], fun j hj => by omega, fun b hb j u hj => by simp at hj, fun _ => ⟨h2, h3⟩⟩
  · have hle : n * sz ≤ c * sz := Nat.mul_le_mul_right _ h3
    refine ⟨cs.toList.take (n * sz), by simp; omega, fun j hj i u hu => ?_, fun b hb j u hj => ?_, fun hp => by rw [hp] at h1; cases h1⟩
    · have hi := lt_get hu
      rw [hmk] at hi
      have := Nat.mul_le_mul_right sz (show j + 1 ≤ n by omega)
      rw [Nat.add_mul, Nat.one_mul] at this
      rw [List.getElem?_take_of_lt (by omega), Array.getElem?_toList]
      exact h5 j hj i u hu
    · rw [h1] at hb
      obtain rfl := Option.some.inj hb
      rw [addN, Nat.zero_add, cell_in h2]
      have := lt_get hj
      simp at this
      rw [List.getElem?_take_of_lt (by omega), Array.getElem?_toList] at hj
      exact hj
/-- An element of the list that was collected. -/
theorem Ent.cells {_v : Value} {g : Nat} (h : Ent T sz mk w (.slice (some ⟨g, 0, none⟩) n c) i) {j : Nat} (hj : j < n) : ∃ cs, SB T w g cs ∧ At cs (j * sz) (mk i) := by
  obtain ⟨p', n', c', he, _, _, h3⟩ := h
  cases he
  rcases h3 with h3 | ⟨g', cs, hg, h5, h6⟩
  · omega
  · obtain rfl : g = g' := by simpa using hg
    exact ⟨cs, h5, h6 j hj⟩
end
end Go.Proofs.YtpfhhaonfbfheaaGreatDoor.ls
