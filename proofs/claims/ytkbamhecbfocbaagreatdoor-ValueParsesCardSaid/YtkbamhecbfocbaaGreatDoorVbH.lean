/- tinderboxlaw04.owned: laws on memory alone: lists of texts that are marked by their owner, then grown. No walk; no conditions. -/
import Derived.Test.YtkbamhecbfocbaaGreatDoorVbG
import Derived.ArgAppend
import Derived.Deep.RegionLaw
namespace Go.Proofs.YtkbamhecbfocbaaGreatDoor.va
open Go.ChangeShapes Go.WideShapes Go.ChangeAt Go.RowKit gl

def mkB (i : Nat) : ByteArray := ⟨#[109, 97, 114, 107, UInt8.ofNat i]⟩
def mkV (i : Nat) : Value := .string (mkB i)
/-- A block of texts. -/
def SB (w : World) (g : Nat) (cs : Array Value) : Prop := w.heap[g]? = some (.cells cs 9 (0, 0))
/-- All blocks of texts are as they were. -/
def SK (w w' : World) : Prop := ∀ g cs, SB w g cs → SB w' g cs
theorem SK.of_below {w w' : World} (hb : Below w.heap.size w w') : SK w w' := fun g _ h => (hb.block g (lt_of_block h)).trans h
theorem SK.trans {a b c : World} (h : SK a b) (h2 : SK b c) : SK a c := fun g cs h3 => h2 g cs (h g cs h3)
theorem SK.own {w w' : World} {base n : Nat} {v : Value} {xs : List Value} (ho : w.ownsRow base 25 1 v n xs) (hg : w.grownBy w' v.ownBlock) : SK w w' := by
  intro g cs h
  refine (hg.block g (lt_of_block h) ?_).trans h
  intro e
  rcases ho.2 with ⟨rfl, _⟩ | ⟨k, cap, cur, rfl, _, hk, _⟩
  · cases e
  · exact ne_of_types h hk (by decide) (Option.some.inj e)

/-- One list: where it lies, how many texts it has; no room behind it. -/
structure LR where
  p : Option Addr
  n : Nat
def LR.v (R : LR) : Value := .slice R.p R.n R.n
/-- The lists, in blocks from B on, below M; of list i so many are marked. -/
def Hold (B M : Nat) (w : World) (rs : List LR) (cnt : Nat → Nat) : Prop :=
  ∀ (i : Nat) (R : LR), rs[i]? = some R → R.n ≤ 4294967295 ∧ ((R.p = none ∧ R.n = 0) ∨ ∃ g cs, R.p = some ⟨g, 0, none⟩ ∧ B ≤ g ∧ g < M ∧ SB w g cs ∧ cs.size = R.n ∧ ∀ j, j < cnt i → j < R.n → cs[j]? = some (mkV i))
def Dist (rs : List LR) : Prop := ∀ (i j : Nat) (Ri Rj : LR) (g : Nat), rs[i]? = some Ri → rs[j]? = some Rj → Ri.p = some ⟨g, 0, none⟩ → Rj.p = some ⟨g, 0, none⟩ → i = j
def cntAt (i j : Nat) : Nat → Nat := fun k => if k < i then 4294967295 else if k = i then j else 0
theorem Hold.keep {B M : Nat} {w w' : World} {rs : List LR} {cnt : Nat → Nat} (h : Hold B M w rs cnt) (hk : SK w w') : Hold B M w' rs cnt := by
  intro i R hR
  obtain ⟨h1, h2⟩ := h i R hR
  refine ⟨h1, ?_⟩
  rcases h2 with h2 | ⟨g, cs, h3, h4, h5, h6, h7⟩
  · exact .inl h2
  · exact .inr ⟨g, cs, h3, h4, h5, hk g cs h6, h7⟩
theorem Hold.upM {B M M' : Nat} {w : World} {rs : List LR} {cnt : Nat → Nat} (h : Hold B M w rs cnt) (hM : M ≤ M') : Hold B M' w rs cnt := by
  intro i R hR
  obtain ⟨h1, h2⟩ := h i R hR
  refine ⟨h1, ?_⟩
  rcases h2 with h2 | ⟨g, cs, h3, h4, h5, h6⟩
  · exact .inl h2
  · exact .inr ⟨g, cs, h3, h4, by omega, h6⟩
theorem Hold.more {B M : Nat} {w : World} {rs : List LR} {cnt cnt' : Nat → Nat} (h : Hold B M w rs cnt) (hc : ∀ (i : Nat) (R : LR), rs[i]? = some R → cnt' i ≤ cnt i ∨ R.n ≤ cnt i) : Hold B M w rs cnt' := by
  intro i R hR
  obtain ⟨h1, h2⟩ := h i R hR
  refine ⟨h1, ?_⟩
  rcases h2 with h2 | ⟨g, cs, h3, h4, h5, h6, h7, h8⟩
  · exact .inl h2
  · refine .inr ⟨g, cs, h3, h4, h5, h6, h7, fun j hj hn => h8 j ?_ hn⟩
    rcases hc i R hR with hc | hc
    · omega
    · omega
theorem Hold.next {B M : Nat} {w : World} {rs : List LR} {i j : Nat} (h : Hold B M w rs (cntAt i j)) (hj : ∀ R, rs[i]? = some R → R.n ≤ j) : Hold B M w rs (cntAt (i + 1) 0) := by
  refine h.more fun k R hk => ?_
  unfold cntAt
  rcases Nat.lt_trichotomy k i with h1 | h1 | h1
  · left; rw [if_pos (by omega), if_pos h1]; omega
  · right
    subst h1
    rw [if_neg (by omega), if_pos rfl]
    exact hj R hk
  · left
    rw [if_neg (by omega)]
    split <;> omega
theorem Hold.mark {B M : Nat} {w : World} {rs : List LR} {i j g : Nat} {R : LR} (h : Hold B M w rs (cntAt i j)) (hd : Dist rs) (hR : rs[i]? = some R) (hp : R.p = some ⟨g, 0, none⟩) : Hold B M (w.setCell ⟨g, j, none⟩ (mkV i)) rs (cntAt i (j + 1)) := by
  intro k S hS
  obtain ⟨h1, h2⟩ := h k S hS
  refine ⟨h1, ?_⟩
  rcases h2 with h2 | ⟨q, cs, h3, h4, h5, h6, h7, h8⟩
  · exact .inl h2
  · right
    by_cases hki : k = i
    · subst hki
      rw [hR] at hS
      obtain rfl := Option.some.inj hS
      rw [hp] at h3
      obtain rfl : g = q := by simpa using h3
      refine ⟨g, cs.setIfInBounds j (mkV k), hp, h4, h5, heap_set h6 _, by simpa using h7, fun t ht htn => ?_⟩
      by_cases htj : t = j
      · subst htj
        rw [Array.getElem?_setIfInBounds_self_of_lt (by omega)]
      · rw [Array.getElem?_setIfInBounds_ne (by omega)]
        refine h8 t ?_ htn
        unfold cntAt at ht ⊢
        rw [if_neg (by omega), if_pos rfl] at ht ⊢
        omega
    · have hne : q ≠ g := by
        rintro rfl
        exact hki (hd k i S R q hS hR h3 hp)
      refine ⟨q, cs, h3, h4, h5, heap_set_ne h6 _ hne, h7, fun t ht htn => h8 t ?_ htn⟩
      unfold cntAt at ht ⊢
      rw [if_neg hki] at ht ⊢
      exact ht

/-- The lists, in a row. -/
def LRow (w : World) (gl : Nat) (rs : List LR) : Prop := ∃ cl, w.heap[gl]? = some (.cells cl 25 (0, 0)) ∧ ∀ (i : Nat) (R : LR), rs[i]? = some R → cl[i]? = some R.v
theorem LRow.below {w w' : World} {gl : Nat} {rs : List LR} (h : LRow w gl rs) (hb : Below w.heap.size w w') : LRow w' gl rs := by
  obtain ⟨cl, h1, h2⟩ := h
  exact ⟨cl, (hb.block _ (lt_of_block h1)).trans h1, h2⟩
theorem LRow.set {w : World} {gl g j : Nat} {cs : Array Value} {rs : List LR} (h : LRow w gl rs) (hs : SB w g cs) (u : Value) : LRow (w.setCell ⟨g, j, none⟩ u) gl rs := by
  obtain ⟨cl, h1, h2⟩ := h
  exact ⟨cl, heap_set_ne h1 _ (ne_of_types h1 hs (by decide)), h2⟩
theorem LRow.cell {w : World} {gl : Nat} {rs : List LR} (h : LRow w gl rs) {i : Nat} {R : LR} (hR : rs[i]? = some R) : w.cell? ⟨gl, i, none⟩ = some (.slice R.p R.n R.n) := by
  obtain ⟨cl, h1, h2⟩ := h
  rw [cell_in h1, h2 i R hR]
  rfl

/-- A list that only has i's mark. -/
def Ent (w : World) (v : Value) (i : Nat) : Prop := ∃ p n c, v = .slice p n c ∧ n ≤ 8589934592 ∧ (n = 0 ∨ ∃ g cs, p = some ⟨g, 0, none⟩ ∧ SB w g cs ∧ ∀ j, j < n → cs[j]? = some (mkV i))
theorem Ent.keep {w w' : World} {v : Value} {i : Nat} (h : Ent w v i) (hk : SK w w') : Ent w' v i := by
  obtain ⟨p, n, c, h1, h2, h3⟩ := h
  refine ⟨p, n, c, h1, h2, ?_⟩
  rcases h3 with h3 | ⟨g, cs, h4, h5, h6⟩
  · exact .inl h3
  · exact .inr ⟨g, cs, h4, hk g cs h5, h6⟩
def Ents (w : World) (vals : List Value) : Prop := ∀ (t : Nat) (v : Value), vals[t]? = some v → Ent w v (t / 6)
theorem Ents.keep {w w' : World} {vals : List Value} (h : Ents w vals) (hk : SK w w') : Ents w' vals := fun t v hv => (h t v hv).keep hk
/-- The list that is grown. -/
def XS (w : World) (M : Nat) (p : Option Addr) (n c i : Nat) : Prop :=
  (p = none ∧ n = 0 ∧ c = 0) ∨ ∃ g cs, p = some ⟨g, 0, none⟩ ∧ SB w g cs ∧ n ≤ c ∧ c ≤ cs.size ∧ (∀ j, j < n → cs[j]? = some (mkV i)) ∧ (n = c ∨ M ≤ g)
theorem XS.keep {w w' : World} {M n c i : Nat} {p : Option Addr} (h : XS w M p n c i) (hk : SK w w') : XS w' M p n c i := by
  rcases h with h | ⟨g, cs, h1, h2, h3⟩
  · exact .inl h
  · exact .inr ⟨g, cs, h1, hk g cs h2, h3⟩
theorem XS.ent {w : World} {M n c i : Nat} {p : Option Addr} (h : XS w M p n c i) (hn : n ≤ 8589934592) : Ent w (.slice p n c) i := by
  refine ⟨p, n, c, rfl, hn, ?_⟩
  rcases h with ⟨_, h, _⟩ | ⟨g, cs, h1, h2, _, _, h3, _⟩
  · exact .inl h
  · exact .inr ⟨g, cs, h1, h2, h3⟩
theorem XS.start {B M : Nat} {w : World} {rs : List LR} {i : Nat} {R : LR} (h : Hold B M w rs (cntAt rs.length 0)) (hR : rs[i]? = some R) : XS w M R.p R.n R.n i := by
  have hi : i < rs.length := lt_of_get hR
  obtain ⟨h1, h2⟩ := h i R hR
  rcases h2 with ⟨h2, h3⟩ | ⟨g, cs, h3, h4, h5, h6, h7, h8⟩
  · exact .inl ⟨h2, h3, h3⟩
  · refine .inr ⟨g, cs, h3, h6, Nat.le_refl _, by omega, fun j hj => h8 j ?_ hj, .inl rfl⟩
    unfold cntAt
    rw [if_pos hi]
    omega
/-- Lists that lie in the same new block are no longer. -/
def Share (M : Nat) (vals : List Value) (p : Option Addr) (n : Nat) : Prop := ∀ (t g n' c' : Nat), vals[t]? = some (Value.slice (some ⟨g, 0, none⟩) n' c') → p = some ⟨g, 0, none⟩ → M ≤ g → n' ≤ n
theorem Share.snoc {M n c : Nat} {vals : List Value} {p : Option Addr} (h : Share M vals p n) : Share M (vals ++ [.slice p n c]) p n := by
  intro t g n' c' ht hp hg
  rcases Nat.lt_or_ge t vals.length with h1 | h1
  · rw [List.getElem?_append_left h1] at ht
    exact h t g n' c' ht hp hg
  · rw [List.getElem?_append_right h1] at ht
    have := lt_of_get ht
    simp at this
    rw [show t - vals.length = 0 by omega] at ht
    simp at ht
    omega
theorem Ents.snoc {w : World} {vals : List Value} {v : Value} {i : Nat} (h : Ents w vals) (hv : Ent w v i) (hl : vals.length / 6 = i) : Ents w (vals ++ [v]) := by
  intro t u ht
  rcases Nat.lt_or_ge t vals.length with h1 | h1
  · rw [List.getElem?_append_left h1] at ht
    exact h t u ht
  · rw [List.getElem?_append_right h1] at ht
    have := lt_of_get ht
    simp at this
    obtain rfl : t = vals.length := by omega
    simp at ht
    subst ht
    rw [hl]
    exact hv
/-- The list grows into its room. -/
theorem Ents.room {w : World} {M n c i g : Nat} {vals : List Value} {u : Value} (h : Ents w vals) (hs : Share M vals (some ⟨g, 0, none⟩) n) (hX : XS w M (some ⟨g, 0, none⟩) n c i) (hroom : n + 1 ≤ c) : Ents (w.setCell ⟨g, n, none⟩ u) vals := by
  intro t v ht
  obtain ⟨p, m, d, rfl, h2, h3⟩ := h t v ht
  refine ⟨p, m, d, rfl, h2, ?_⟩
  rcases h3 with h3 | ⟨q, cs, rfl, h5, h6⟩
  · exact .inl h3
  · right
    rcases hX with ⟨h, _⟩ | ⟨g', cg, hg, hb, _, _, _, hM⟩
    · cases h
    · obtain rfl : g = g' := by simpa using hg
      by_cases hq : q = g
      · subst hq
        have hm := hs t q m d ht rfl (by omega)
        refine ⟨q, cs.setIfInBounds n u, rfl, heap_set h5 _, fun j hj => ?_⟩
        rw [Array.getElem?_setIfInBounds_ne (by omega)]
        exact h6 j hj
      · exact ⟨q, cs, rfl, heap_set_ne h5 _ hq, h6⟩
theorem XS.room {w : World} {M n c i g : Nat} (hX : XS w M (some ⟨g, 0, none⟩) n c i) (hroom : n + 1 ≤ c) : XS (w.setCell ⟨g, n, none⟩ (mkV i)) M (some ⟨g, 0, none⟩) (n + 1) c i := by
  rcases hX with ⟨h, _⟩ | ⟨g', cg, hg, hb, h1, h2, h3, hM⟩
  · cases h
  · obtain rfl : g = g' := by simpa using hg
    refine .inr ⟨g, cg.setIfInBounds n (mkV i), rfl, heap_set hb _, hroom, by simpa using h2, fun j hj => ?_, .inr (by omega)⟩
    by_cases hjn : j = n
    · subst hjn
      rw [Array.getElem?_setIfInBounds_self_of_lt (by omega)]
    · rw [Array.getElem?_setIfInBounds_ne (by omega)]
      exact h3 j (by omega)
theorem Share.room {M n : Nat} {vals : List Value} {p : Option Addr} (h : Share M vals p n) : Share M vals p (n + 1) := fun t g n' c' ht hp hg => by have := h t g n' c' ht hp hg; omega
/-- The list grows into a new block. -/
theorem XS.grown {w' : World} {M n i base : Nat} {v : Value} {olds : List Value} (ho : w'.ownsRow base 9 1 v (n + 1) (olds ++ [mkV i])) (hbase : M ≤ base) (hl : olds.length = n) (ha : ∀ u ∈ olds, u = mkV i) :
    ∃ g c, v = .slice (some ⟨g, 0, none⟩) (n + 1) c ∧ base ≤ g ∧ XS w' M (some ⟨g, 0, none⟩) (n + 1) c i := by
  rcases ho.2 with ⟨_, h0⟩ | ⟨g, cap, cur, rfl, hg, hb, hnc, hcm, hcs, htake⟩
  · omega
  · refine ⟨g, cap, rfl, hg, .inr ⟨g, cur, rfl, hb, hnc, by omega, fun j hj => ?_, .inr (by omega)⟩⟩
    have h1 : (olds ++ [mkV i])[j]? = some (mkV i) := by
      rcases Nat.lt_or_ge j olds.length with h | h
      · rw [List.getElem?_append_left h, List.getElem?_eq_getElem h]
        exact congrArg some (ha _ (List.getElem_mem h))
      · rw [List.getElem?_append_right h, show j - olds.length = 0 by omega]
        rfl
    rw [← htake, List.getElem?_take_of_lt (by omega)] at h1
    rwa [Array.getElem?_toList] at h1
theorem Share.grown {w : World} {M g n : Nat} {vals : List Value} (h : Ents w vals) (hg : w.heap.size ≤ g) : Share M vals (some ⟨g, 0, none⟩) n := by
  intro t q n' c' ht hp _
  obtain rfl : g = q := by simpa using hp
  obtain ⟨p, m, d, he, _, h3⟩ := h t _ ht
  cases he
  rcases h3 with h3 | ⟨q, cs, hq, h5, _⟩
  · omega
  · obtain rfl : g = q := by simpa using hq
    have := lt_of_block h5
    omega
theorem XS.olds {w : World} {M n c i : Nat} {p : Option Addr} (h : XS w M p n c i) : ∃ olds : List Value, olds.length = n * 1 ∧ (∀ u ∈ olds, u = mkV i) ∧ (∀ b, p = some b → ∀ j u, olds[j]? = some u → w.cell? (b.add j) = some u) ∧ (p = none → n = 0 ∧ c = 0) := by
  refine ⟨List.replicate n (mkV i), by simp, fun u hu => (List.mem_replicate.1 hu).2, fun b hb j u hj => ?_, fun hp => ?_⟩
  · rw [List.getElem?_replicate] at hj
    split at hj
    · rcases h with ⟨h, _⟩ | ⟨g, cs, h1, h2, _, _, h3, _⟩
      · rw [hb] at h; cases h
      · rw [hb] at h1
        obtain rfl := Option.some.inj h1
        rw [add_none, Nat.zero_add, cell_in h2, h3 j (by assumption)]
        exact hj
    · cases hj
  · rcases h with ⟨_, h1, h2⟩ | ⟨g, cs, h1, _⟩
    · exact ⟨h1, h2⟩
    · rw [hp] at h1; cases h1
theorem mkB_add (i : Nat) : (⟨#[109, 97, 114, 107]⟩ : ByteArray) ++ (⟨#[UInt8.ofNat i]⟩ : ByteArray) = mkB i := by
  apply ByteArray.ext
  rfl
theorem own_kept {w w' : World} {base n size : Nat} {e : TypeId} {v : Value} {xs : List Value} (ho : w.ownsRow base e size v n xs) (hb : Below w.heap.size w w') : w'.ownsRow base e size v n xs := (Upd.of_below hb []).row ho (fun _ _ h => by cases h)
theorem own_setStr {w : World} {base n g j : Nat} {v u : Value} {xs : List Value} {cs : Array Value} (ho : w.ownsRow base 25 1 v n xs) (hs : SB w g cs) : (w.setCell ⟨g, j, none⟩ u).ownsRow base 25 1 v n xs := by
  refine ((Upd.refl [g] w).setCell (p := ⟨g, j, none⟩) (.inl (by simp)) u).row ho fun q hq hm => ?_
  obtain rfl : q = g := by simpa using hm
  rcases ho.2 with ⟨rfl, _⟩ | ⟨k, cap, cur, rfl, _, hk, _⟩
  · cases hq
  · exact ne_of_types hs hk (by decide) (Option.some.inj hq).symm
theorem below_none {w w' : World} (h : w.grownBy w' none) : Below w.heap.size w w' := ⟨h.os, h.tape, h.output, h.size, fun k hk => h.block k hk (by simp)⟩
theorem cellLt {w : World} {p : Addr} {u : Value} (h : w.cell? p = some u) : p.block < w.heap.size := by
  rcases Nat.lt_or_ge p.block w.heap.size with h' | h'
  · exact h'
  · simp [World.cell?, Array.getElem?_eq_none h'] at h
theorem convB (k : Nat) (hk : k < 256) (w : World) (n : Nat) : (convert 47 9 (.slice (some ⟨w.heap.size, 0, none⟩) 1 1)).run Tryz.prog ((w.alloc (.cells #[.int .u8 k] 5)).drewN n) = .ok (.string ⟨#[UInt8.ofNat k]⟩) ((w.alloc (.cells #[.int .u8 k] 5)).drewN n) := by
  refine run_convert_bytes_back _ _ _ 5 ⟨w.heap.size, 0, none⟩ 1 [UInt8.ofNat k] Tryz.underlying47 Tryz.underlying5 Tryz.underlying9 fun j hj => ?_
  have : j = 0 := by simp at hj; omega
  subst this
  have h := heap_alloc_new w (.cells #[.int .u8 k] 5)
  rw [add_none]
  show (w.alloc (.cells #[.int .u8 k] 5)).cell? ⟨w.heap.size, 0 + 0, none⟩ = _
  rw [cell_in h]
  simp
  omega
end Go.Proofs.YtkbamhecbfocbaaGreatDoor.va
