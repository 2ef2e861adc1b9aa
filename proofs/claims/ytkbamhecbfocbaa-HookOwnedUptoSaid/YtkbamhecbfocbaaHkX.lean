/- tinderboxlaw22.HookOwned: what an owner may do with a list that came out. Laws on memory alone: no walk. No conditions. -/
import Derived.Test.YtkbamhecbfocbaaHkW
import Derived.ArgAppend
namespace Go.Proofs.Ytkbamhecbfocbaa.hk
open Go.RowKit

/-- A slice with room for n strings, in a block from B on, below M. -/
def Rm (w : World) (B M : Nat) (nv : Value) (n : Nat) : Prop :=
  (nv = .slice none 0 0 ∧ n = 0) ∨ ∃ b cs, nv = .slice (some ⟨b, 0, none⟩) n n ∧ B ≤ b ∧ b < M ∧ w.heap[b]? = some (.cells cs 9 (0, 0)) ∧ n ≤ cs.size
theorem Rm.below {w w' : World} {B M n : Nat} {nv : Value} (h : Rm w B M nv n) (hb : Below w.heap.size w w') : Rm w' B M nv n := by
  rcases h with h | ⟨b, cs, h1, h2, h3, h4, h5⟩
  · exact .inl h
  · exact .inr ⟨b, cs, h1, h2, h3, (hb.block _ (lt_of_block h4)).trans h4, h5⟩
theorem Rm.set {w : World} {B M n : Nat} {nv : Value} (h : Rm w B M nv n) (p : Addr) (u : Value) (hp : p.spot = none) : Rm (w.setCell p u) B M nv n := by
  rcases h with h | ⟨b, cs, h1, h2, h3, h4, h5⟩
  · exact .inl h
  · obtain ⟨pb, po, ps⟩ := p
    simp only at hp
    subst hp
    by_cases he : b = pb
    · subst he
      exact .inr ⟨b, _, h1, h2, h3, heap_set h4 u, by simpa using h5⟩
    · exact .inr ⟨b, cs, h1, h2, h3, heap_set_ne h4 u he, h5⟩
/-- What is left of a list of services from place k on. -/
def LeftAt (w : World) (B M g k : Nat) : Prop :=
  B ≤ g ∧ g < M ∧ ∃ cs, w.heap[g]? = some (.cells cs 29 (0, 0)) ∧ 12 ≤ cs.size ∧ ∀ (i : Nat) (x : HookD), k ≤ i → stdL[i]? = some x → ∃ nv, cs[i * 2 + 1]? = some nv ∧ Rm w B M nv x.needs.length
theorem LeftAt.below {w w' : World} {B M g k : Nat} (h : LeftAt w B M g k) (hb : Below w.heap.size w w') : LeftAt w' B M g k := by
  obtain ⟨h1, h2, cs, h3, h4, h5⟩ := h
  refine ⟨h1, h2, cs, (hb.block _ (lt_of_block h3)).trans h3, h4, fun i x hi hx => ?_⟩
  obtain ⟨nv, h6, h7⟩ := h5 i x hi hx
  exact ⟨nv, h6, h7.below hb⟩
theorem LeftAt.setStr {w : World} {B M g k b j : Nat} {cs : Array Value} (h : LeftAt w B M g k) (hb : w.heap[b]? = some (.cells cs 9 (0, 0))) (u : Value) : LeftAt (w.setCell ⟨b, j, none⟩ u) B M g k := by
  obtain ⟨h1, h2, cg, h3, h4, h5⟩ := h
  refine ⟨h1, h2, cg, heap_set_ne h3 u (ne_of_types h3 hb (by decide)), h4, fun i x hi hx => ?_⟩
  obtain ⟨nv, h6, h7⟩ := h5 i x hi hx
  exact ⟨nv, h6, h7.set _ _ rfl⟩
theorem LeftAt.over {w : World} {B M g k : Nat} (h : LeftAt w B M g k) (a b : Value) : LeftAt ((w.setCell ⟨g, k * 2, none⟩ a).setCell ⟨g, k * 2 + 1, none⟩ b) B M g (k + 1) := by
  obtain ⟨h1, h2, cg, h3, h4, h5⟩ := h
  refine ⟨h1, h2, _, heap_set (heap_set h3 a) b, by simpa using h4, fun i x hi hx => ?_⟩
  obtain ⟨nv, h6, h7⟩ := h5 i x (by omega) hx
  exact ⟨nv, by rw [Array.getElem?_setIfInBounds_ne (by omega), Array.getElem?_setIfInBounds_ne (by omega)]; exact h6, (h7.set _ _ rfl).set _ _ rfl⟩
theorem LeftAt.start {w w' : World} {B : Nat} {v : Value} (h : OwnHooks w B v stdL) (hb : Below w.heap.size w w') : ∃ g, v = .slice (some ⟨g, 0, none⟩) 6 6 ∧ LeftAt w' B w.heap.size g 0 := by
  obtain ⟨g, cs, rfl, h1, h2, h3, h4⟩ := h
  refine ⟨g, rfl, h1, lt_of_block h2, cs, (hb.block _ (lt_of_block h2)).trans h2, h3, fun i x _ hx => ?_⟩
  obtain ⟨_, nv, h5, h6⟩ := h4 i x hx
  refine ⟨nv, h5, ?_⟩
  rcases h6 with ⟨h7, h8⟩ | ⟨n, c, h7, h8, h9, h10, _⟩
  · exact .inl ⟨h7, by rw [h8]; rfl⟩
  · exact .inr ⟨n, c, h7, h8, lt_of_block h9, (hb.block _ (lt_of_block h9)).trans h9, h10⟩
theorem OwnStrs.upd {w w' : World} {S : List Nat} {B : Nat} {v : Value} {l : List ByteArray} (h : OwnStrs w B v l) (hu : Upd S w w') (hS : ∀ k ∈ S, k < B) : OwnStrs w' B v l := by
  rcases h with h | ⟨n, cs, h1, h2, h3, h4⟩
  · exact .inl h
  · exact .inr ⟨n, cs, h1, h2, hu.obj h3 (fun hk => by have := hS n hk; omega), h4⟩
theorem OwnHooks.upd {w w' : World} {S : List Nat} {B : Nat} {v : Value} {l : List HookD} (h : OwnHooks w B v l) (hu : Upd S w w') (hS : ∀ k ∈ S, k < B) : OwnHooks w' B v l := by
  obtain ⟨g, cs, h1, h2, h3, h4, h5⟩ := h
  refine ⟨g, cs, h1, h2, hu.obj h3 (fun hk => by have := hS g hk; omega), h4, fun i x hi => ?_⟩
  obtain ⟨h6, nv, h7, h8⟩ := h5 i x hi
  exact ⟨h6, nv, h7, h8.upd hu hS⟩
/-- The blocks from B on, below M. -/
def span (B M : Nat) : List Nat := (List.range (M - B)).map (B + ·)
theorem mem_span {B M k : Nat} : k ∈ span B M ↔ B ≤ k ∧ k < M := by
  simp only [span, List.mem_map, List.mem_range]
  constructor
  · rintro ⟨a, h1, rfl⟩; omega
  · rintro ⟨h1, h2⟩; exact ⟨k - B, by omega, by omega⟩
def pickV (c n : Int) : Int := (if c < 0 then -(c + 1) else c) % n
theorem pick_any (c : Int) (h1 : -9223372036854775808 ≤ c) (h2 : c ≤ 9223372036854775807) (w : World) :
    Calls Try.prog 8 #[.int .i64 c, .int .i64 6] w fun e w' => ∃ n : Nat, n < 6 ∧ e = .returned (.int .i64 (n : Int)) ∧ w = w' := by
  have hb : 0 ≤ pickV c 6 ∧ pickV c 6 < 6 := by unfold pickV; omega
  obtain ⟨m, hm⟩ := Int.eq_ofNat_of_zero_le hb.1
  have hm6 : m < 6 := by omega
  have HM := Lib.hid hm
  clear hb hm
  by_cases h : c < 0
  · go_enter Try.func8, Try.ntmps8
    go_wp2_with fail
    go_ret
    refine ⟨m, hm6, ?_, rfl⟩
    rw [← HM.out]
    unfold pickV
    rw [if_pos h, ← Int.tmod_eq_emod_of_nonneg (by omega), Int.neg_tmod]
    rfl
  · go_enter Try.func8, Try.ntmps8
    go_wp2_with fail
    go_ret
    refine ⟨m, hm6, ?_, rfl⟩
    rw [← HM.out]
    unfold pickV
    rw [if_neg (by omega)]
    rfl
end Go.Proofs.Ytkbamhecbfocbaa.hk
