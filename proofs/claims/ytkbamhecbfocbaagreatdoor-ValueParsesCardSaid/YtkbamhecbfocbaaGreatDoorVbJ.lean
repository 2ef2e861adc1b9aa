/- tinderboxlaw04.ValueParses: laws on memory: the lists that came out, in a row, beside the lists they are compared with. No walk; no conditions. -/
import Derived.Test.YtkbamhecbfocbaaGreatDoorVbI
import Derived.Test.YtkbamhecbfocbaaGreatDoorVaP
namespace Go.Proofs.YtkbamhecbfocbaaGreatDoor.va
open Go.ChangeShapes Go.WideShapes Go.ChangeAt Go.RowKit gl

theorem parse_len (k : Int) (l : List UInt8) : (parse wordL k l).1.words.length ≤ 16 := by
  unfold parse
  split
  · rw [parseBool_words]; simp
  · split
    · rw [parseInt_words]; simp
    · split
      · rw [parseUnit_words]; simp
      · split
        · rw [parseText_words]; simp
        · split
          · unfold parseWords
            split
            · simp
            · split
              · split
                · simp [zero]
                · simp only [List.length_map]; omega
              · simp [zero]
          · simp [zero]

/-- A slice of texts, in a block of texts. -/
def SBs (w : World) (v : Value) (xs : List ByteArray) : Prop := ∃ p c, v = .slice p xs.length c ∧ xs.length ≤ c ∧ (xs = [] ∨ ∃ g cs, p = some ⟨g, 0, none⟩ ∧ SB w g cs ∧ ∀ (j : Nat) x, xs[j]? = some x → cs[j]? = some (.string x))
theorem SBs.keep {w w' : World} {v : Value} {xs : List ByteArray} (h : SBs w v xs) (hk : SK w w') : SBs w' v xs := by
  obtain ⟨p, c, h1, h2, h3⟩ := h
  refine ⟨p, c, h1, h2, ?_⟩
  rcases h3 with h3 | ⟨g, cs, h4, h5, h6⟩
  · exact .inl h3
  · exact .inr ⟨g, cs, h4, hk g cs h5, h6⟩
theorem SBs.strs {w : World} {v : Value} {xs : List ByteArray} (h : SBs w v xs) : Strs w v xs := by
  obtain ⟨p, c, h1, h2, h3⟩ := h
  refine ⟨p, c, h1, h2, ?_⟩
  rcases h3 with h3 | ⟨g, cs, h4, h5, h6⟩
  · exact .inl h3
  · exact .inr ⟨g, 0, h4, lt_of_block h5, fun j x hj => by rw [Nat.zero_add, cell_in h5]; exact h6 j x hj⟩
theorem FreshR.sbs {w w' : World} {sl : Value} {xs : List ByteArray} (h : FreshR w w' sl xs) : SBs w' sl xs := by
  rcases h with ⟨rfl, rfl⟩ | ⟨g, c, cs, rfl, hc, _, h2, hat⟩
  · exact ⟨none, 0, rfl, Nat.le_refl _, .inl rfl⟩
  · exact ⟨_, c, rfl, hc, .inr ⟨g, cs, rfl, h2, hat⟩⟩
/-- A list of its own, from block B on. -/
def NewL (B : Nat) (w : World) (R : LR) : Prop := (R.p = none ∧ R.n = 0) ∨ ∃ g cs, R.p = some ⟨g, 0, none⟩ ∧ B ≤ g ∧ SB w g cs ∧ cs.size = R.n
theorem NewL.keep {B : Nat} {w w' : World} {R : LR} (h : NewL B w R) (hk : SK w w') : NewL B w' R := by
  rcases h with h | ⟨g, cs, h1, h2, h3, h4⟩
  · exact .inl h
  · exact .inr ⟨g, cs, h1, h2, hk g cs h3, h4⟩
theorem Fresh.lr {w w' : World} {sl : Value} {xs : List ByteArray} (h : Fresh w w' sl xs) : ∃ p n, sl = .slice p n n ∧ n = xs.length ∧ SBs w' (.slice p n n) xs ∧ NewL w.heap.size w' ⟨p, n⟩ := by
  rcases h with ⟨rfl, rfl⟩ | ⟨g, rfl, h1, h2⟩
  · exact ⟨none, 0, rfl, rfl, ⟨none, 0, rfl, Nat.le_refl _, .inl rfl⟩, .inl ⟨rfl, rfl⟩⟩
  · exact ⟨_, _, rfl, rfl, ⟨_, _, rfl, Nat.le_refl _, .inr ⟨g, _, rfl, h2, fun j x hj => by rw [List.getElem?_toArray, List.getElem?_map, hj]; rfl⟩⟩, .inr ⟨g, _, rfl, h1, h2, by simp⟩⟩

structure PL (M : Nat) (w : World) (k : Nat) (pl : Option Addr) (cl : Nat) (pw : Option Addr) (cw : Nat) (rs : List LR) (xss : List (List ByteArray)) (vw : List Value) : Prop where
  ownl : w.ownsRow M 25 1 (.slice pl k cl) k (rs.map LR.v)
  ownw : w.ownsRow M 25 1 (.slice pw k cw) k vw
  apart : ∀ g, (Value.slice pl k cl).ownBlock = some g → (Value.slice pw k cw).ownBlock ≠ some g
  len : xss.length = k
  hold : Hold M w.heap.size w rs (cntAt 0 0)
  dist : Dist rs
  words : ∀ (i : Nat) (R : LR) (xs : List ByteArray), rs[i]? = some R → xss[i]? = some xs → SBs w R.v xs
  wants : ∀ (i : Nat) (v : Value) (xs : List ByteArray), vw[i]? = some v → xss[i]? = some xs → SBs w v xs
theorem own_other {w w' : World} {base n size : Nat} {e : TypeId} {v : Value} {xs : List Value} {row : Option Nat} (ho : w.ownsRow base e size v n xs) (hg : w.grownBy w' row) (hr : ∀ g, v.ownBlock = some g → row ≠ some g) : w'.ownsRow base e size v n xs :=
  (Upd.of_grown (S := row.toList) hg (fun k hk => by rw [hk]; simp)).row ho fun g hgb hm => hr g hgb (by simpa using hm)
theorem PL.start (M : Nat) (w : World) : PL M w 0 none 0 none 0 [] [] [] :=
  ⟨⟨rfl, .inl ⟨rfl, rfl⟩⟩, ⟨rfl, .inl ⟨rfl, rfl⟩⟩, fun g h => (by cases h), rfl, fun i R h => (by simp at h), fun i j Ri Rj g h => (by simp at h), fun i R xs h => (by simp at h), fun i v xs h => (by simp at h)⟩
theorem PL.keep {M : Nat} {w w' : World} {k cl cw : Nat} {pl pw : Option Addr} {rs : List LR} {xss : List (List ByteArray)} {vw : List Value} (h : PL M w k pl cl pw cw rs xss vw) (hb : Below w.heap.size w w') : PL M w' k pl cl pw cw rs xss vw :=
  ⟨own_kept h.ownl hb, own_kept h.ownw hb, h.apart, h.len, (h.hold.keep (SK.of_below hb)).upM hb.size, h.dist, fun i R xs h1 h2 => (h.words i R xs h1 h2).keep (SK.of_below hb), fun i v xs h1 h2 => (h.wants i v xs h1 h2).keep (SK.of_below hb)⟩
theorem get_snoc {α : Type} {l : List α} {x y : α} {i : Nat} (h : (l ++ [x])[i]? = some y) : l[i]? = some y ∨ (i = l.length ∧ y = x) := by
  rcases Nat.lt_or_ge i l.length with h1 | h1
  · rw [List.getElem?_append_left h1] at h; exact .inl h
  · rw [List.getElem?_append_right h1] at h
    have := lt_of_get h
    simp at this
    have hi : i = l.length := by omega
    subst hi
    simp at h
    exact .inr ⟨rfl, h.symm⟩
theorem own_lt {w : World} {base n : Nat} {v : Value} {xs : List Value} (ho : w.ownsRow base 25 1 v n xs) {g : Nat} (h : v.ownBlock = some g) : g < w.heap.size := (ho.lt g h).2
/-- One list more, in two appends. -/
theorem PL.next {M : Nat} {w wa wb : World} {k cl cw ga gb ca cb : Nat} {pl pw : Option Addr} {rs : List LR} {xss : List (List ByteArray)} {vw : List Value} {R : LR} {xs : List ByteArray} {v : Value}
    (h : PL M w k pl cl pw cw rs xss vw) (hR : NewL M w R) (hRn : R.n ≤ 16) (hRd : ∀ (i : Nat) (S : LR) (g : Nat), rs[i]? = some S → S.p = some ⟨g, 0, none⟩ → R.p ≠ some ⟨g, 0, none⟩) (hRx : SBs w R.v xs) (hvx : SBs w v xs)
    (oa : wa.ownsRow M 25 1 (.slice (some ⟨ga, 0, none⟩) (k + 1) ca) (k + 1) (rs.map LR.v ++ [R.v])) (hga : w.grownBy wa (Value.slice pl k cl).ownBlock) (hat : (Value.slice pl k cl).ownBlock = some ga ∨ w.heap.size ≤ ga) (hgl : ga < wa.heap.size)
    (ob : wb.ownsRow M 25 1 (.slice (some ⟨gb, 0, none⟩) (k + 1) cb) (k + 1) (vw ++ [v])) (hgb : wa.grownBy wb (Value.slice pw k cw).ownBlock) (hbt : (Value.slice pw k cw).ownBlock = some gb ∨ wa.heap.size ≤ gb) :
    PL M wb (k + 1) (some ⟨ga, 0, none⟩) ca (some ⟨gb, 0, none⟩) cb (rs ++ [R]) (xss ++ [xs]) (vw ++ [v]) := by
  have k1 : SK w wa := SK.own h.ownl hga
  have ow : wa.ownsRow M 25 1 (.slice pw k cw) k vw := own_other h.ownw hga fun g hg e => h.apart g e hg
  have k2 : SK wa wb := SK.own ow hgb
  have kk := k1.trans k2
  have hne : ∀ g, (Value.slice pw k cw).ownBlock = some g → g ≠ ga := by
    rintro g hg rfl
    rcases hat with h1 | h1
    · exact h.apart g h1 hg
    · have := own_lt h.ownw hg; omega
  have ol : wb.ownsRow M 25 1 (.slice (some ⟨ga, 0, none⟩) (k + 1) ca) (k + 1) (rs.map LR.v ++ [R.v]) := own_other oa hgb fun g hg e => hne g e (by cases hg; rfl)
  have hrl : rs.length = k := by have := h.ownl.1; simpa using this
  have hvl : vw.length = k := by have := h.ownw.1; simpa using this
  have hszs : w.heap.size ≤ wb.heap.size := Nat.le_trans hga.size hgb.size
  refine ⟨by rw [List.map_append]; exact ol, ob, ?_, by rw [List.length_append, h.len]; rfl, ?_, ?_, ?_, ?_⟩
  · intro g hg e
    cases hg
    cases e
    rcases hbt with h1 | h1
    · exact hne _ h1 rfl
    · omega
  · intro i S hS
    rcases get_snoc hS with hS | ⟨rfl, rfl⟩
    · exact ((h.hold.keep kk).upM hszs) i S hS
    · refine ⟨by omega, ?_⟩
      rcases hR with hR | ⟨g, cs, h1, h2, h3, h4⟩
      · exact .inl hR
      · refine .inr ⟨g, cs, h1, h2, lt_of_block (kk g cs h3), kk g cs h3, h4, fun j hj _ => ?_⟩
        unfold cntAt at hj
        split at hj
        · omega
        · split at hj <;> omega
  · intro i j Ri Rj g hi hj hpi hpj
    rcases get_snoc hi with hi2 | ⟨e1, e2⟩
    · rcases get_snoc hj with hj2 | ⟨e3, e4⟩
      · exact h.dist i j Ri Rj g hi2 hj2 hpi hpj
      · rw [e4] at hpj
        exact absurd hpj (hRd i Ri g hi2 hpi)
    · rcases get_snoc hj with hj2 | ⟨e3, e4⟩
      · rw [e2] at hpi
        exact absurd hpi (hRd j Rj g hj2 hpj)
      · rw [e1, e3]
  · intro i S ys hS hy
    rcases get_snoc hS with hS | ⟨rfl, rfl⟩
    · rcases get_snoc hy with hy | ⟨h1, rfl⟩
      · exact (h.words i S ys hS hy).keep kk
      · have := lt_of_get hS; rw [h.len] at h1; omega
    · rcases get_snoc hy with hy | ⟨h1, rfl⟩
      · have := lt_of_get hy; rw [h.len] at this; omega
      · exact hRx.keep kk
  · intro i u ys hu hy
    rcases get_snoc hu with hu | ⟨rfl, rfl⟩
    · rcases get_snoc hy with hy | ⟨h1, rfl⟩
      · exact (h.wants i u ys hu hy).keep kk
      · have := lt_of_get hu; rw [h.len] at h1; omega
    · rcases get_snoc hy with hy | ⟨h1, rfl⟩
      · have := lt_of_get hy; rw [h.len] at this; omega
      · exact hvx.keep kk
theorem PL.wantAt {M : Nat} {w wa : World} {k cl cw : Nat} {pl pw : Option Addr} {rs : List LR} {xss : List (List ByteArray)} {vw : List Value}
    (h : PL M w k pl cl pw cw rs xss vw) (hga : w.grownBy wa (Value.slice pl k cl).ownBlock) : wa.ownsRow M 25 1 (.slice pw k cw) k vw := own_other h.ownw hga fun g hg e => h.apart g e hg
theorem PL.fresh {M : Nat} {w w' : World} {k cl cw : Nat} {pl pw : Option Addr} {rs : List LR} {xss : List (List ByteArray)} {vw : List Value} (h : PL M w k pl cl pw cw rs xss vw) {R : LR} (hR : NewL w.heap.size w' R) :
    ∀ (i : Nat) (S : LR) (g : Nat), rs[i]? = some S → S.p = some ⟨g, 0, none⟩ → R.p ≠ some ⟨g, 0, none⟩ := by
  intro i S g hS hp e
  rcases hR with ⟨h1, _⟩ | ⟨q, cs, h1, h2, _⟩
  · rw [h1] at e; cases e
  · rw [h1] at e
    obtain rfl : q = g := by simp at e; exact e
    rcases (h.hold i S hS).2 with ⟨h3, _⟩ | ⟨q', cs', h3, _, h4, _⟩
    · rw [h3] at hp; cases hp
    · rw [h3] at hp
      cases hp
      omega
/-- All five lists: owned finds them as they should be. -/
theorem PL.owned {M : Nat} {w : World} {cl cw : Nat} {pl pw : Option Addr} {rs : List LR} {xss : List (List ByteArray)} {vw : List Value} (h : PL M w 5 pl cl pw cw rs xss vw) (hM : M ≤ w.heap.size) :
    Calls Tryz.prog 12 #[.slice pl 5 cl, .slice pw 5 cw] w fun e w' => e = .returned (.bool true) ∧ Below M w w' := by
  have hrl : rs.length = 5 := by have := h.ownl.1; simpa using this
  have hvl : vw.length = 5 := by have := h.ownw.1; simpa using this
  rcases h.ownl.2 with ⟨_, h0⟩ | ⟨gl, cap, cur, hv, hg, hbl, hnc, _, _, htake⟩
  · omega
  · rcases h.ownw.2 with ⟨_, h0⟩ | ⟨gw, capw, curw, hvw, _, _, hncw, _⟩
    · omega
    · cases hv
      cases hvw
      refine owned_any M rs xss hrl h.len gl cl gw cw hnc hncw w hM h.hold h.dist ⟨cur, hbl, fun i R hR => ?_⟩ (fun i R xs h1 h2 => (h.words i R xs h1 h2).strs) (fun i xs hx => ?_)
      · have h1 : (rs.map LR.v)[i]? = some R.v := by rw [List.getElem?_map, hR]; rfl
        have := lt_of_get hR
        rw [← htake, List.getElem?_take_of_lt (by omega)] at h1
        rwa [Array.getElem?_toList] at h1
      · have hi := lt_of_get hx
        rw [h.len] at hi
        obtain ⟨v, hv⟩ : ∃ v, vw[i]? = some v := ⟨_, List.getElem?_eq_getElem (by omega)⟩
        have hs := h.wants i v xs hv hx
        have hc := h.ownw.cells (g := gw) rfl i v hv
        rw [add_none, Nat.zero_add] at hc
        obtain ⟨p, c, rfl, h2⟩ := hs
        exact ⟨p, c, hc, (show SBs w (.slice p xs.length c) xs from ⟨p, c, rfl, h2⟩).strs⟩
end Go.Proofs.YtkbamhecbfocbaaGreatDoor.va
