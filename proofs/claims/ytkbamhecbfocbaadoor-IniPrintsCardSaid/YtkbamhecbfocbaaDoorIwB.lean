/- tinderboxlaw06.parses: laws on memory: the lists that came out, in a row, beside the lists they are compared with. No walk; no conditions. -/
import Derived.Test.YtkbamhecbfocbaaDoorIwA
namespace Go.Proofs.YtkbamhecbfocbaaDoor.ini
open Go.ChangeShapes Go.WideShapes Go.ChangeAt Go.RowKit gl

theorem NewLns.keep {M : Nat} {w w' : World} {v : Value} {l : List Ln} (h : NewLns M w v l) (hk : ls.SK 35 w w') : NewLns M w' v l := by
  rcases h with h | ⟨g, c, cs, rfl, hc, hg, hbk, h2⟩
  · exact .inl h
  · exact .inr ⟨g, c, cs, rfl, hc, hg, hk g cs hbk, h2⟩
theorem NewLns.form {M : Nat} {w : World} {v : Value} {l : List Ln} (h : NewLns M w v l) : ∃ p c, v = .slice p l.length c := by
  rcases h with ⟨rfl, rfl⟩ | ⟨g, c, cs, rfl, _⟩
  · exact ⟨none, 0, rfl⟩
  · exact ⟨_, c, rfl⟩
theorem NewLns.hold {M : Nat} {w : World} {i q : Nat} {R : ls.LR} {l : List Ln} {mk : Nat → List Value} (h : NewLns M w R.v l) (hl : l.length ≤ 4294967295) (hq : q = 0) : ls.HoldR 35 3 mk M w.heap.size w i R q := by
  obtain ⟨p, n, c⟩ := R
  rcases h with ⟨rfl, h⟩ | ⟨g, c', cs, h, hc, hg, hb, hcs, _⟩
  · simp only [ls.LR.v, Value.slice.injEq] at h
    obtain ⟨rfl, rfl, rfl⟩ := h
    exact ⟨by simp, Nat.le_refl _, .inl ⟨rfl, rfl, rfl⟩⟩
  · simp only [ls.LR.v, Value.slice.injEq] at h
    obtain ⟨rfl, rfl, rfl⟩ := h
    exact ⟨hl, hc, .inr ⟨g, cs, rfl, hg, lt_of_block hb, hb, hcs, fun j hj => by omega⟩⟩

structure PL (M : Nat) (w : World) (k : Nat) (pl : Option Addr) (cl : Nat) (pw : Option Addr) (cw : Nat) (rs : List ls.LR) (lss : List (List Ln)) (vw : List Value) : Prop where
  ownl : w.ownsRow M 27 1 (.slice pl k cl) k (rs.map ls.LR.v)
  ownw : w.ownsRow M 27 1 (.slice pw k cw) k vw
  apart : ∀ g, (Value.slice pl k cl).ownBlock = some g → (Value.slice pw k cw).ownBlock ≠ some g
  len : lss.length = k
  dist : ls.Dist rs
  news : ∀ (i : Nat) (R : ls.LR) (l : List Ln), rs[i]? = some R → lss[i]? = some l → NewLns M w R.v l ∧ l.length ≤ 4294967295
  wants : ∀ (i : Nat) (v : Value) (l : List Ln), vw[i]? = some v → lss[i]? = some l → NewLns M w v l
theorem own_other {w w' : World} {base n size : Nat} {e : TypeId} {v : Value} {xs : List Value} {row : Option Nat} (ho : w.ownsRow base e size v n xs) (hg : w.grownBy w' row) (hr : ∀ g, v.ownBlock = some g → row ≠ some g) : w'.ownsRow base e size v n xs :=
  (Upd.of_grown (S := row.toList) hg (fun k hk => by rw [hk]; simp)).row ho fun g hgb hm => hr g hgb (by simpa using hm)
theorem PL.start (M : Nat) (w : World) : PL M w 0 none 0 none 0 [] [] [] :=
  ⟨⟨rfl, .inl ⟨rfl, rfl⟩⟩, ⟨rfl, .inl ⟨rfl, rfl⟩⟩, fun g h => (by cases h), rfl, fun i j Ri Rj g h => (by simp at h), fun i R xs h => (by simp at h), fun i v xs h => (by simp at h)⟩
theorem PL.keep {M : Nat} {w w' : World} {k cl cw : Nat} {pl pw : Option Addr} {rs : List ls.LR} {lss : List (List Ln)} {vw : List Value} (h : PL M w k pl cl pw cw rs lss vw) (hb : Below w.heap.size w w') : PL M w' k pl cl pw cw rs lss vw :=
  ⟨ls.own_kept h.ownl hb, ls.own_kept h.ownw hb, h.apart, h.len, h.dist, fun i R xs h1 h2 => ⟨(h.news i R xs h1 h2).1.later hb, (h.news i R xs h1 h2).2⟩, fun i v xs h1 h2 => (h.wants i v xs h1 h2).later hb⟩
theorem PL.fresh {M : Nat} {w w' : World} {k cl cw : Nat} {pl pw : Option Addr} {rs : List ls.LR} {lss : List (List Ln)} {vw : List Value} (h : PL M w k pl cl pw cw rs lss vw) {R : ls.LR} {l : List Ln} (hR : NewLns w.heap.size w' R.v l) :
    ∀ (i : Nat) (S : ls.LR) (g : Nat), rs[i]? = some S → S.p = some ⟨g, 0, none⟩ → R.p ≠ some ⟨g, 0, none⟩ := by
  intro i S g hS hp e
  obtain ⟨p, n, c⟩ := R
  have hrl : rs.length = k := by have := h.ownl.1; simpa using this
  have hi := ls.lt_get hS
  obtain ⟨xs, hx⟩ : ∃ xs, lss[i]? = some xs := ⟨_, List.getElem?_eq_getElem (by rw [h.len]; omega)⟩
  rcases hR with ⟨_, h1⟩ | ⟨q, c', cs, h1, _, h2, _⟩
  · simp only [ls.LR.v, Value.slice.injEq] at h1
    rw [h1.1] at e; cases e
  · simp only [ls.LR.v, Value.slice.injEq] at h1
    simp only [h1.1] at e
    obtain rfl : q = g := by simpa using e
    obtain ⟨p', n', c2⟩ := S
    rcases (h.news i _ xs hS hx).1 with ⟨_, h3⟩ | ⟨q', c3, cs', h3, _, _, h4, _⟩
    · simp only [ls.LR.v, Value.slice.injEq] at h3
      simp only [h3.1] at hp; cases hp
    · simp only [ls.LR.v, Value.slice.injEq] at h3
      simp only [h3.1] at hp
      obtain rfl : q' = q := by simpa using hp
      have := lt_of_block h4
      omega
theorem PL.wantAt {M : Nat} {w wa : World} {k cl cw : Nat} {pl pw : Option Addr} {rs : List ls.LR} {lss : List (List Ln)} {vw : List Value}
    (h : PL M w k pl cl pw cw rs lss vw) (hga : w.grownBy wa (Value.slice pl k cl).ownBlock) : wa.ownsRow M 27 1 (.slice pw k cw) k vw := own_other h.ownw hga fun g hg e => h.apart g e hg
/-- One list more, in two appends. -/
theorem PL.next {M : Nat} {w wa wb : World} {k cl cw ga gb ca cb : Nat} {pl pw : Option Addr} {rs : List ls.LR} {lss : List (List Ln)} {vw : List Value} {R : ls.LR} {l : List Ln} {v : Value}
    (h : PL M w k pl cl pw cw rs lss vw) (hR : NewLns M w R.v l) (hRn : l.length ≤ 4294967295) (hRd : ∀ (i : Nat) (S : ls.LR) (g : Nat), rs[i]? = some S → S.p = some ⟨g, 0, none⟩ → R.p ≠ some ⟨g, 0, none⟩) (hvx : NewLns M w v l)
    (oa : wa.ownsRow M 27 1 (.slice (some ⟨ga, 0, none⟩) (k + 1) ca) (k + 1) (rs.map ls.LR.v ++ [R.v])) (hga : w.grownBy wa (Value.slice pl k cl).ownBlock) (hat : (Value.slice pl k cl).ownBlock = some ga ∨ w.heap.size ≤ ga) (hgl : ga < wa.heap.size)
    (ob : wb.ownsRow M 27 1 (.slice (some ⟨gb, 0, none⟩) (k + 1) cb) (k + 1) (vw ++ [v])) (hgb : wa.grownBy wb (Value.slice pw k cw).ownBlock) (hbt : (Value.slice pw k cw).ownBlock = some gb ∨ wa.heap.size ≤ gb) :
    PL M wb (k + 1) (some ⟨ga, 0, none⟩) ca (some ⟨gb, 0, none⟩) cb (rs ++ [R]) (lss ++ [l]) (vw ++ [v]) := by
  have k1 : ls.SK 35 w wa := ls.SK.own (by decide) h.ownl hga
  have ow : wa.ownsRow M 27 1 (.slice pw k cw) k vw := own_other h.ownw hga fun g hg e => h.apart g e hg
  have k2 : ls.SK 35 wa wb := ls.SK.own (by decide) ow hgb
  have kk := k1.trans k2
  have hne : ∀ g, (Value.slice pw k cw).ownBlock = some g → g ≠ ga := by
    rintro g hg rfl
    rcases hat with h1 | h1
    · exact h.apart g h1 hg
    · have := (h.ownw.lt g hg).2; omega
  have ol : wb.ownsRow M 27 1 (.slice (some ⟨ga, 0, none⟩) (k + 1) ca) (k + 1) (rs.map ls.LR.v ++ [R.v]) := own_other oa hgb fun g hg e => hne g e (by cases hg; rfl)
  have hrl : rs.length = k := by have := h.ownl.1; simpa using this
  have hvl : vw.length = k := by have := h.ownw.1; simpa using this
  refine ⟨by rw [List.map_append]; exact ol, ob, ?_, by rw [List.length_append, h.len]; rfl, ?_, ?_, ?_⟩
  · intro g hg e
    cases hg
    cases e
    rcases hbt with h1 | h1
    · exact hne _ h1 rfl
    · omega
  · intro i j Ri Rj g hi hj hpi hpj
    rcases ls.get_snoc hi with hi2 | ⟨e1, e2⟩
    · rcases ls.get_snoc hj with hj2 | ⟨e3, e4⟩
      · exact h.dist i j Ri Rj g hi2 hj2 hpi hpj
      · rw [e4] at hpj
        exact absurd hpj (hRd i Ri g hi2 hpi)
    · rcases ls.get_snoc hj with hj2 | ⟨e3, e4⟩
      · rw [e2] at hpi
        exact absurd hpi (hRd j Rj g hj2 hpj)
      · rw [e1, e3]
  · intro i S ys hS hy
    rcases ls.get_snoc hS with hS | ⟨rfl, rfl⟩
    · rcases ls.get_snoc hy with hy | ⟨h1, rfl⟩
      · exact ⟨(h.news i S ys hS hy).1.keep kk, (h.news i S ys hS hy).2⟩
      · have := ls.lt_get hS; rw [h.len] at h1; omega
    · rcases ls.get_snoc hy with hy | ⟨h1, rfl⟩
      · have := ls.lt_get hy; rw [h.len] at this; omega
      · exact ⟨hR.keep kk, hRn⟩
  · intro i u ys hu hy
    rcases ls.get_snoc hu with hu | ⟨rfl, rfl⟩
    · rcases ls.get_snoc hy with hy | ⟨h1, rfl⟩
      · exact (h.wants i u ys hu hy).keep kk
      · have := ls.lt_get hu; rw [h.len] at h1; omega
    · rcases ls.get_snoc hy with hy | ⟨h1, rfl⟩
      · have := ls.lt_get hy; rw [h.len] at this; omega
      · exact hvx.keep kk
/-- The rows, as blocks. -/
theorem PL.rowL {M : Nat} {w : World} {k cl cw : Nat} {pl pw : Option Addr} {rs : List ls.LR} {lss : List (List Ln)} {vw : List Value} (h : PL M w k pl cl pw cw rs lss vw) (hk : 0 < k) :
    ∃ gl, pl = some ⟨gl, 0, none⟩ ∧ k ≤ cl ∧ M ≤ gl ∧ ls.LRow 27 w gl rs := by
  have hrl : rs.length = k := by have := h.ownl.1; simpa using this
  rcases h.ownl.2 with ⟨_, h0⟩ | ⟨gl, cap, cur, hv, hg, hbl, hnc, _, _, htake⟩
  · omega
  · cases hv
    refine ⟨gl, rfl, hnc, hg, cur, hbl, fun i R hR => ?_⟩
    have h1 : (rs.map ls.LR.v)[i]? = some R.v := by rw [List.getElem?_map, hR]; rfl
    have := ls.lt_get hR
    rw [← htake, List.getElem?_take_of_lt (by omega)] at h1
    rwa [Array.getElem?_toList] at h1
theorem PL.rowW {M : Nat} {w : World} {k cl cw : Nat} {pl pw : Option Addr} {rs : List ls.LR} {lss : List (List Ln)} {vw : List Value} (h : PL M w k pl cl pw cw rs lss vw) (hk : 0 < k) :
    ∃ gw, pw = some ⟨gw, 0, none⟩ ∧ k ≤ cw ∧ gw < w.heap.size ∧ ∀ (i : Nat) (l : List Ln), lss[i]? = some l → ∃ p c, w.cell? ⟨gw, i, none⟩ = some (.slice p l.length c) ∧ Lns w (.slice p l.length c) l := by
  have hvl : vw.length = k := by have := h.ownw.1; simpa using this
  rcases h.ownw.2 with ⟨_, h0⟩ | ⟨gw, capw, curw, hvw, _, hbw, hncw, _⟩
  · omega
  · cases hvw
    refine ⟨gw, rfl, hncw, lt_of_block hbw, fun i l hx => ?_⟩
    have hi := ls.lt_get hx
    rw [h.len] at hi
    obtain ⟨v, hv⟩ : ∃ v, vw[i]? = some v := ⟨_, List.getElem?_eq_getElem (by omega)⟩
    have hs := h.wants i v l hv hx
    have hc := h.ownw.cells (g := gw) rfl i v hv
    rw [ls.addN, Nat.zero_add] at hc
    obtain ⟨p, c, rfl⟩ := hs.form
    exact ⟨p, c, hc, hs.lns⟩
theorem PL.holds {M : Nat} {w : World} {k cl cw : Nat} {pl pw : Option Addr} {rs : List ls.LR} {lss : List (List Ln)} {vw : List Value} {mk : Nat → List Value} (h : PL M w k pl cl pw cw rs lss vw) : ls.Hold 35 3 mk M w.heap.size w rs 0 (ls.cntAt 0 0) := by
  intro i R _ hR
  have hrl : rs.length = k := by have := h.ownl.1; simpa using this
  have hi := ls.lt_get hR
  obtain ⟨xs, hx⟩ : ∃ xs, lss[i]? = some xs := ⟨_, List.getElem?_eq_getElem (by rw [h.len]; omega)⟩
  obtain ⟨h1, h2⟩ := h.news i R xs hR hx
  refine h1.hold h2 ?_
  unfold ls.cntAt
  rw [if_neg (by omega)]
  split <;> rfl
theorem PL.lists {M : Nat} {w : World} {k cl cw : Nat} {pl pw : Option Addr} {rs : List ls.LR} {lss : List (List Ln)} {vw : List Value} (h : PL M w k pl cl pw cw rs lss vw) (i : Nat) (R : ls.LR) (l : List Ln) (h1 : rs[i]? = some R) (h2 : lss[i]? = some l) : Lns w R.v l := (h.news i R l h1 h2).1.lns
end Go.Proofs.YtkbamhecbfocbaaDoor.ini
