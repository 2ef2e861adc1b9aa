/- Laws and contracts on which the statement rests, part C: each text says what it proves, and its conditions. -/
import Derived.Test.YtpfhhaonfbfheaaGreatDoorMgB
import Derived.Test.YtpfhhaonfbfheaaGreatDoorMgA
import Derived.Maps.Own
import Derived.Maps.OwnOps
import Derived.Maps.Views
import Derived.Maps.StringElems
import Derived.StringKeys
import Derived.Test.YtpfhhaonfbfheaaGreatDoorShelf
import Derived.Deep.Upon
import Derived.Shelf.Spec.SlicesInsert
import Derived.Lib.AppendZerosOnto
import Derived.Laws.NewBlocks
import Derived.Deep.RegionLaw
import Derived.Laws.CopyOwn
/- Laws on memory for any program: a slice that reads as a list of structs of k cells each, and one that lies in memory of its own. No program in sight; no conditions beside those stated. -/
namespace Go.Proofs.YtpfhhaonfbfheaaGreatDoor.rw
open Go.RowKit ls

section
variable {α : Type} (enc : α → List Value) (k : Nat)
def flat (l : List α) : List Value := l.flatMap enc
variable {enc k}
theorem flat_len (hk : ∀ x, (enc x).length = k) : ∀ l : List α, (flat enc l).length = l.length * k
  | [] => by simp [flat]
  | x :: r => by
    have := flat_len hk r
    simp only [flat, List.flatMap_cons, List.length_append, List.length_cons] at this ⊢
    rw [this, hk, Nat.succ_mul]
    omega
theorem flat_at (hk : ∀ x, (enc x).length = k) : ∀ (l : List α) (j : Nat) (x : α) (i : Nat) (v : Value), l[j]? = some x → (enc x)[i]? = some v → (flat enc l)[j * k + i]? = some v
  | [], j, x, i, v, h, _ => by simp at h
  | y :: r, 0, x, i, v, h, hv => by
    simp at h
    subst h
    have hi := lt_get hv
    simp only [flat, List.flatMap_cons]
    rw [List.getElem?_append_left (by omega)]
    simpa using hv
  | y :: r, j + 1, x, i, v, h, hv => by
    have := flat_at hk r j x i v (by simpa using h) hv
    simp only [flat, List.flatMap_cons]
    have e : (j + 1) * k = j * k + k := Nat.succ_mul j k
    rw [List.getElem?_append_right (by rw [hk]; omega), hk, ← this]
    simp only [flat]
    congr 1
    omega
theorem flat_snoc (l : List α) (x : α) : flat enc (l ++ [x]) = flat enc l ++ enc x := by simp [flat]
theorem flat_append (l m : List α) : flat enc (l ++ m) = flat enc l ++ flat enc m := by simp [flat]
theorem flat_one (h1 : ∀ x, ∀ v ∈ enc x, v.oneCell' = true) (l : List α) : ∀ v ∈ flat enc l, v.oneCell' = true := by
  intro v hv
  obtain ⟨x, _, hx⟩ := List.mem_flatMap.1 hv
  exact h1 x v hx

variable (enc k)
/-- A slice reads as a list. -/
def Rw (w : World) (v : Value) (l : List α) : Prop :=
  ∃ (p : Option Addr) (c : Nat), v = .slice p l.length c ∧ l.length ≤ c ∧ (l = [] ∨ ∃ b o, p = some ⟨b, o, none⟩ ∧ b < w.heap.size ∧ ∀ (j : Nat) (x : α), l[j]? = some x → ∀ (i : Nat) (u : Value), (enc x)[i]? = some u → w.cell? ⟨b, o + (j * k + i), none⟩ = some u)
variable {enc k}
theorem Rw.later {w w' : World} {v : Value} {l : List α} (h : Rw enc k w v l) (hb : Below w.heap.size w w') : Rw enc k w' v l := by
  obtain ⟨p, c, rfl, hc, h⟩ := h
  refine ⟨p, c, rfl, hc, ?_⟩
  rcases h with h | ⟨b, o, rfl, hlt, hat⟩
  · exact .inl h
  · exact .inr ⟨b, o, rfl, by have := hb.size; omega, fun j x hx i u hu => (hb.cell (p := ⟨b, o + (j * k + i), none⟩) hlt).trans (hat j x hx i u hu)⟩
theorem Rw.upd {w w' : World} {S : List Nat} {v : Value} {l : List α} (h : Rw enc k w v l) (hu : Upd S w w') (hn : ∀ g, v.ownBlock = some g → g ∉ S) : Rw enc k w' v l := by
  obtain ⟨p, c, rfl, hc, h⟩ := h
  refine ⟨p, c, rfl, hc, ?_⟩
  rcases h with h | ⟨b, o, rfl, hlt, hat⟩
  · exact .inl h
  · exact .inr ⟨b, o, rfl, by have := hu.size; omega, fun j x hx i u hu' => (hu.cell (p := ⟨b, o + (j * k + i), none⟩) hlt (hn b rfl)).trans (hat j x hx i u hu')⟩
theorem Rw.cell {w : World} {b o n c : Nat} {l : List α} (h : Rw enc k w (.slice (some ⟨b, o, none⟩) n c) l) {j : Nat} {x : α} (hx : l[j]? = some x) {i : Nat} {u : Value} (hu : (enc x)[i]? = some u) : w.cell? ⟨b, o + (j * k + i), none⟩ = some u := by
  obtain ⟨p, c', he, hc, h⟩ := h
  cases he
  rcases h with rfl | ⟨b', o', hp, hlt, hat⟩
  · simp at hx
  · cases hp
    exact hat j x hx i u hu
theorem Rw.ptr {w : World} {p : Option Addr} {n c : Nat} {l : List α} (h : Rw enc k w (.slice p n c) l) : l.length = n ∧ n ≤ c ∧ (0 < n → ∃ b o, p = some ⟨b, o, none⟩ ∧ b < w.heap.size) := by
  obtain ⟨p', c', he, hc, h⟩ := h
  cases he
  refine ⟨rfl, hc, fun hn => ?_⟩
  rcases h with rfl | ⟨b, o, hp, hlt, _⟩
  · simp at hn
  · exact ⟨b, o, hp, hlt⟩
theorem Rw.form {w : World} {v : Value} {l : List α} (h : Rw enc k w v l) : ∃ p c, v = .slice p l.length c := by
  obtain ⟨p, c, rfl, _⟩ := h
  exact ⟨p, c, rfl⟩
/-- The first of them. -/
theorem Rw.take {w : World} {p : Option Addr} {n c m : Nat} {l : List α} (h : Rw enc k w (.slice p n c) l) (hm : m ≤ n) : Rw enc k w (.slice p m c) (l.take m) := by
  obtain ⟨h1, h2, _⟩ := h.ptr
  obtain ⟨p', c', he, hc, h⟩ := h
  cases he
  refine ⟨p, c, by rw [List.length_take, Nat.min_eq_left hm], by rw [List.length_take]; omega, ?_⟩
  rcases h with rfl | ⟨b, o, rfl, hlt, hat⟩
  · exact .inl (by simp)
  · refine .inr ⟨b, o, rfl, hlt, fun j x hx => hat j x ?_⟩
    rw [List.getElem?_take] at hx
    split at hx
    · exact hx
    · cases hx
theorem rw_nil (w : World) (p : Option Addr) (c : Nat) : Rw enc k w (.slice p 0 c) [] := ⟨p, c, rfl, by simp, .inl rfl⟩
theorem own_rw (hk : ∀ x, (enc x).length = k) {T : TypeId} {w : World} {Bs n : Nat} {v : Value} {l : List α} (hk0 : 0 < k) (h : w.ownsRow Bs T k v n (flat enc l)) : Rw enc k w v l := by
  have hl : l.length = n := by
    have := h.1
    rw [flat_len hk] at this
    exact Nat.eq_of_mul_eq_mul_right hk0 this
  rcases h.2 with ⟨rfl, h0⟩ | ⟨g, cap, cur, rfl, hg, hb, hnc, _⟩
  · subst h0
    exact ⟨none, 0, by rw [hl], by omega, .inl (List.eq_nil_of_length_eq_zero hl)⟩
  · subst hl
    refine ⟨_, cap, rfl, hnc, .inr ⟨g, 0, rfl, lt_of_block hb, fun j x hx i u hu => ?_⟩⟩
    have := h.cells (g := g) rfl (j * k + i) u (flat_at hk l j x i u hx hu)
    rwa [addN] at this
theorem own_len (hk : ∀ x, (enc x).length = k) {T : TypeId} {w : World} {Bs n : Nat} {v : Value} {l : List α} (hk0 : 0 < k) (h : w.ownsRow Bs T k v n (flat enc l)) : l.length = n := by
  have := h.1
  rw [flat_len hk] at this
  exact Nat.eq_of_mul_eq_mul_right hk0 this
variable (enc k)
/-- A list of its own, from block M on; an empty one may lie anywhere, if it has no room. -/
def NewRw (T : TypeId) (M : Nat) (w : World) (v : Value) (l : List α) : Prop :=
  (l = [] ∧ v = .slice none 0 0) ∨ ∃ g c cs, v = .slice (some ⟨g, 0, none⟩) l.length c ∧ l.length ≤ c ∧ M ≤ g ∧ w.heap[g]? = some (.cells cs T (0, 0)) ∧ c * k ≤ cs.size ∧ At cs 0 (flat enc l)
variable {enc k}
theorem own_new (hk : ∀ x, (enc x).length = k) {T : TypeId} {w : World} {Bs n : Nat} {v : Value} {l : List α} (hk0 : 0 < k) (h : w.ownsRow Bs T k v n (flat enc l)) : NewRw enc k T Bs w v l := by
  have hl := own_len hk hk0 h
  rcases h.2 with ⟨rfl, h0⟩ | ⟨g, cap, cur, rfl, hg, hb, hnc, hcm, hcs, htake⟩
  · subst h0
    exact .inl ⟨List.eq_nil_of_length_eq_zero hl, rfl⟩
  · subst hl
    refine .inr ⟨g, cap, cur, rfl, hnc, hg, hb, by omega, fun i v hv => ?_⟩
    have hi := lt_get hv
    rw [flat_len hk] at hi
    rw [← htake, List.getElem?_take_of_lt (by omega)] at hv
    rw [Array.getElem?_toList] at hv
    rwa [Nat.zero_add]
theorem NewRw.rw (hk : ∀ x, (enc x).length = k) {T : TypeId} {M : Nat} {w : World} {v : Value} {l : List α} (h : NewRw enc k T M w v l) : Rw enc k w v l := by
  rcases h with ⟨rfl, rfl⟩ | ⟨g, c, cs, rfl, hc, _, hb, _, hat⟩
  · exact ⟨none, 0, rfl, by simp, .inl rfl⟩
  · refine ⟨_, c, rfl, hc, .inr ⟨g, 0, rfl, lt_of_block hb, fun j x hx i u hu => ?_⟩⟩
    rw [cell_in hb]
    exact hat (j * k + i) u (flat_at hk l j x i u hx hu)
theorem NewRw.later {T : TypeId} {M : Nat} {w w' : World} {v : Value} {l : List α} (h : NewRw enc k T M w v l) (hb : Below w.heap.size w w') : NewRw enc k T M w' v l := by
  rcases h with h | ⟨g, c, cs, rfl, hc, hg, hbk, h2⟩
  · exact .inl h
  · exact .inr ⟨g, c, cs, rfl, hc, hg, (hb.block g (lt_of_block hbk)).trans hbk, h2⟩
theorem NewRw.mono {T : TypeId} {M M' : Nat} {w : World} {v : Value} {l : List α} (h : NewRw enc k T M w v l) (hM : M' ≤ M) : NewRw enc k T M' w v l := by
  rcases h with h | ⟨g, c, cs, h1, h2, h3, h4⟩
  · exact .inl h
  · exact .inr ⟨g, c, cs, h1, h2, by omega, h4⟩
theorem NewRw.keep {T : TypeId} {M : Nat} {w w' : World} {v : Value} {l : List α} (h : NewRw enc k T M w v l) (hk : SK T w w') : NewRw enc k T M w' v l := by
  rcases h with h | ⟨g, c, cs, h1, h2, h3, h4, h5⟩
  · exact .inl h
  · exact .inr ⟨g, c, cs, h1, h2, h3, hk g cs h4, h5⟩
theorem NewRw.form {T : TypeId} {M : Nat} {w : World} {v : Value} {l : List α} (h : NewRw enc k T M w v l) : ∃ p c, v = .slice p l.length c := by
  rcases h with ⟨rfl, rfl⟩ | ⟨g, c, cs, rfl, _⟩
  · exact ⟨none, 0, rfl⟩
  · exact ⟨_, c, rfl⟩
/-- The same without the room behind it. -/
theorem NewRw.clip {T : TypeId} {M : Nat} {w : World} {p : Option Addr} {n c : Nat} {l : List α} (h : NewRw enc k T M w (.slice p n c) l) : NewRw enc k T M w (.slice p n n) l := by
  rcases h with ⟨rfl, he⟩ | ⟨g, c', cs, he, h2, h3, h4, h5, h6⟩
  · cases he
    exact .inl ⟨rfl, rfl⟩
  · cases he
    exact .inr ⟨g, _, cs, rfl, Nat.le_refl _, h3, h4, Nat.le_trans (Nat.mul_le_mul_right k h2) h5, h6⟩
/-- A block that was laid whole. -/
theorem rw_lit (hk : ∀ x, (enc x).length = k) {T : TypeId} {w : World} {blk : Nat} {l : List α} {cs : Array Value} (h : w.heap[blk]? = some (.cells cs T (0, 0))) (hc : cs.toList = flat enc l) : Rw enc k w (.slice (some ⟨blk, 0, none⟩) l.length l.length) l := by
  refine ⟨_, _, rfl, Nat.le_refl _, .inr ⟨blk, 0, rfl, lt_of_block h, fun j x hx i u hu => ?_⟩⟩
  rw [cell_in h, Nat.zero_add, ← Array.getElem?_toList, hc]
  exact flat_at hk l j x i u hx hu
end
end Go.Proofs.YtpfhhaonfbfheaaGreatDoor.rw
/- Package env: the map of what the names are called, and the rows it makes. No walk; no conditions beside those stated. -/
namespace Go.Proofs.YtpfhhaonfbfheaaGreatDoor.en
open Go.ChangeShapes Go.WideShapes Go.ChangeAt Go.RowKit gl va ls
open Go.Maps

theorem B_size (l : List UInt8) : (B l).size = l.length := by simp [ByteArray.size]
theorem B_of (s : ByteArray) : B s.data.toList = s := by apply ByteArray.ext; simp
theorem B_list (l : List UInt8) : (B l).data.toList = l := by simp

theorem pick_snoc (l : List (List UInt8)) (n nm : List UInt8) : pickL (l ++ [n]) nm = (pickL l nm).or (if greatL n = nm then some n else none) := by
  unfold pickL
  rw [List.find?_append]
  congr 1
  by_cases h : greatL n = nm
  · simp [h]
  · simp [h]
/-- The names so far, by what they are called. -/
def MapN (D : DataW Unit) (l : List (List UInt8)) : Prop := IsMap D ∧ ∀ nm : List UInt8, Maps.has D (.string nm) = (pickL l nm).isSome ∧ D.atKey (.string nm) (.lit (.string [])) = .lit (.string ((pickL l nm).getD []))
theorem mapN_nil : MapN (.map []) [] := ⟨⟨[], rfl⟩, fun _ => ⟨rfl, rfl⟩⟩
theorem keyLit (x : List UInt8) : WideAt.IsKeyLit (.string x) := by first | exact trivial | exact ⟨_, rfl⟩ | simp [WideAt.IsKeyLit]
theorem mapN_put {D : DataW Unit} {l : List (List UInt8)} {n : List UInt8} (h : MapN D l) (hl : ∀ m ∈ l, nameL m = true) (hn : nameL n = true) : MapN (D.put (.string (greatL n)) (.lit (.string n))) (l ++ [n]) := by
  obtain ⟨hm, h⟩ := h
  refine ⟨hm.put _ _, fun nm => ?_⟩
  rw [pick_snoc]
  by_cases e : greatL n = nm
  · subst e
    rw [has_put_same hm (keyLit _), atKey_put_same hm (keyLit _), if_pos rfl]
    cases hp : pickL l (greatL n) with
    | none => exact ⟨rfl, rfl⟩
    | some m =>
      obtain ⟨h1, h2⟩ := pick_name hp
      obtain rfl := great_inj (hl m h1) hn h2
      exact ⟨rfl, rfl⟩
  · rw [has_put_other (by simpa using fun e2 => e e2.symm), atKey_put_other (by simpa using fun e2 => e e2.symm), (h nm).1, (h nm).2, if_neg e]
    simp
noncomputable def mapS : Value → Option (DataW Unit × List MemPlace) := plainElem Tryz.prog 9
theorem lawS : Keyed Tryz.prog 9 := string_keyed Tryz.underlying9
theorem keyS (l : List UInt8) (h : l.length ≤ maxLen) : keyOf Tryz.prog 9 (.string (B l)) = some (.string l) := by
  have := WideMaps.keyOf_string_mk (P := Tryz.prog) Tryz.underlying9 (s := B l) (by rw [B_size]; exact h)
  rw [this]
theorem mapS_mk (l : List UInt8) (h : l.length ≤ maxLen) : mapS (.string (B l)) = some (.lit (.string l), []) := by
  have := plainElem_string (H := Unit) (P := Tryz.prog) Tryz.underlying9 (s := B l) (by rw [B_size]; exact h)
  unfold mapS
  rw [this]
theorem mapS_inv {v : Value} {x : List UInt8} {ps : List MemPlace} (h : mapS v = some (.lit (.string x), ps)) : v = .string (B x) := by
  obtain ⟨s, rfl, hz, _⟩ := plainElem_string_inv (H := Unit) (P := Tryz.prog) Tryz.underlying9 h
  have h1 := congrArg Prod.fst hz
  simp only [DataW.lit.injEq, Lit.string.injEq] at h1
  rw [h1, B_of]
theorem zeroS (w : World) : (zeroValue 9).run Tryz.prog w = .ok (.string ⟨#[]⟩) w := by kernel_rfl
abbrev MapAt (w : World) (m n : Nat) (D : DataW Unit) : Prop := w.ownsMap Tryz.prog 9 mapS m n D
theorem map_upd {S : List Nat} {w w' : World} {m n : Nat} {D : DataW Unit} (h : MapAt w m n D) (hu : Upd S w w') (hm : m ∉ S) : MapAt w' m n D := by
  obtain ⟨es, clock, hb, r⟩ := h
  exact ⟨es, clock, hu.obj hb hm, r⟩
theorem map_later {w w' : World} {m n : Nat} {D : DataW Unit} (h : MapAt w m n D) (hb : Below w.heap.size w w') : MapAt w' m n D := map_upd h (Upd.of_below hb []) (by simp)
theorem map_ne {w : World} {m n b : Nat} {D : DataW Unit} {cs : Array Value} {t : TypeId} {f : Nat × Nat} (h : MapAt w m n D) (hb : w.heap[b]? = some (.cells cs t f)) : m ≠ b := by
  rintro rfl
  obtain ⟨es, clock, hb', _⟩ := h
  rw [hb] at hb'
  cases hb'

/-! ### The rows -/
def gvC (g : Gv) : List Value := [.string (B g.name), .string (B g.text), .int .i64 g.pos]
def stC (l : List UInt8) : List Value := [.string (B l)]
theorem gvC_len : ∀ x, (gvC x).length = 3 := fun _ => rfl
theorem gvC_one : ∀ x, ∀ v ∈ gvC x, v.oneCell' = true := fun x v hv => by
  unfold gvC at hv
  simp only [List.mem_cons, List.not_mem_nil, or_false] at hv
  rcases hv with rfl | rfl | rfl <;> rfl
theorem stC_len : ∀ x, (stC x).length = 1 := fun _ => rfl
theorem stC_one : ∀ x, ∀ v ∈ stC x, v.oneCell' = true := fun x v hv => by
  unfold stC at hv
  simp only [List.mem_cons, List.not_mem_nil, or_false] at hv
  rcases hv with rfl <;> rfl
abbrev Gvs (w : World) (v : Value) (l : List Gv) : Prop := rw.Rw gvC 3 w v l
abbrev NewGvs (M : Nat) (w : World) (v : Value) (l : List Gv) : Prop := rw.NewRw gvC 3 35 M w v l
abbrev Sts (w : World) (v : Value) (l : List (List UInt8)) : Prop := rw.Rw stC 1 w v l
abbrev NewSts (M : Nat) (w : World) (v : Value) (l : List (List UInt8)) : Prop := rw.NewRw stC 1 9 M w v l
end Go.Proofs.YtpfhhaonfbfheaaGreatDoor.en
/- Package env: great and Name; the document's great and Name. Conditions: texts of at most 2147483647 bytes; the listed variables hold what the program's text lays. -/
namespace Go.Proofs.YtpfhhaonfbfheaaGreatDoor.en
open Go.ChangeShapes Go.WideShapes Go.ChangeAt Go.RowKit gl va ls

theorem u_bytes {l : List UInt8} (hl : nameL l = true) : ∀ (j : Nat) (b : UInt8), (B l).data.toList[j]? = some b → b.toNat < 128 := by
  intro j b hj
  have : b ∈ l := by
    have := List.mem_of_getElem? hj
    simpa using this
  exact ok_128 b (name_bytes hl b this)
theorem upper_len (l : List UInt8) : (Lib.toUpperA l).length = l.length := by simp [Lib.toUpperA]
theorem replaced (l : List UInt8) (hl : nameL l = true) (W : World) (hG : Glo W) :
    Calls Tryz.prog 78 #[.string (B (Lib.toUpperA l)), .string ⟨#[46]⟩, .string ⟨#[95]⟩] W fun e w' => e = .returned (.string (B (greatL l))) ∧ Below W.heap.size W w' := by
  obtain ⟨m, hm⟩ := hG.maxLen
  have h32 := name_len hl
  have hz : (B (Lib.toUpperA l)).size = l.length := by rw [B_size, upper_len]
  have hc := Lib.countB_mul_le (⟨#[46]⟩ : ByteArray) (by decide) _ (B (Lib.toUpperA l)) (Nat.le_refl _)
  have h1 : (⟨#[46]⟩ : ByteArray).size = 1 := rfl
  have h2 : (⟨#[95]⟩ : ByteArray).size = 1 := rfl
  rw [h1] at hc
  refine (Tryz.strings_ReplaceAll (B (Lib.toUpperA l)) ⟨#[46]⟩ ⟨#[95]⟩ m W (by rw [hz]; omega) hm (by decide) (by rw [h2]; omega)).mono ?_
  rintro e w' ⟨rfl, hb⟩
  refine ⟨?_, hb⟩
  rw [show (B (Lib.toUpperA l)).data.toList = Lib.toUpperA l from by simp, show (⟨#[46]⟩ : ByteArray).data.toList = [46] from rfl, show (⟨#[95]⟩ : ByteArray).data.toList = [95] from rfl, great_lib]
theorem great_any (l : List UInt8) (hl : nameL l = true) (w : World) (hG : Glo w) :
    Calls Tryz.prog 51 #[.string (B l)] w fun e w' => e = .returned (.string (B (greatL l))) ∧ Below w.heap.size w w' := by
  have HU : Hid (Calls Tryz.prog 79 #[.string (B l)] w fun e w' => e = .returned (.string (B (Lib.toUpperA l))) ∧ Below w.heap.size w w') := Lib.hid ((Tryz.strings_ToUpper_ascii (B l) w (by rw [B_size]; have := name_len hl; omega) (u_bytes hl)).mono fun e w' h => by
    rw [show (B l).data.toList = l from by simp] at h
    exact h)
  have HR := Lib.hid fun W (hW : Below w.heap.size w W) => replaced l hl W (hG.below hW (Nat.le_refl _))
  clear hl hG
  generalize B l = s at *
  generalize B (Lib.toUpperA l) = u at *
  generalize B (greatL l) = g at *
  go_enter Tryz.func51, Tryz.ntmps51
  go_wp2_with fail
  refine HU.out.mono ?_
  rintro e w1 ⟨rfl, hb1⟩
  have Hb1 := Lib.hid hb1
  clear hb1
  go_wp2_with fail
  refine (HR.out _ Hb1.out).mono ?_
  rintro e w2 ⟨rfl, hb2⟩
  have Hb2 := Lib.hid (Hb1.out.trans (hb2.mono Hb1.out.size))
  clear hb2
  go_wp2_with fail
  go_ret
  exact ⟨rfl, Hb2.out⟩

/-- What Name gives. -/
def nmL (l : List UInt8) : List UInt8 := if nameL l = true then greatL l else []
def nmE (l : List UInt8) : Int := if nameL l = true then 0 else 1
theorem nmL_yes {l : List UInt8} (h : nameL l = true) : nmL l = greatL l := by unfold nmL; rw [if_pos h]
theorem nmE_yes {l : List UInt8} (h : nameL l = true) : nmE l = 0 := by unfold nmE; rw [if_pos h]
theorem nmL_no {l : List UInt8} (h : nameL l = false) : nmL l = [] := by unfold nmL; rw [if_neg (by rw [h]; simp)]
theorem nmE_no {l : List UInt8} (h : nameL l = false) : nmE l = 1 := by unfold nmE; rw [if_neg (by rw [h]; simp)]
theorem Name_any (l : List UInt8) (hl : l.length ≤ 2147483647) (w : World) (hG : Glo w) :
    Calls Tryz.prog 21 #[.string (B l)] w fun e w' => e = .returned (.tuple #[.string (B (nmL l)), .int .i64 (nmE l)]) ∧ Below w.heap.size w w' := by
  have HI : Hid (Calls Tryz.prog 50 #[.string (B l)] w fun e w' => e = .returned (.bool (nameL l)) ∧ Below w.heap.size w w') := Lib.hid ((IsName_any (B l) (by rw [B_size]; omega) w hG).mono fun e w' h => by
    rw [show (B l).data.toList = l from by simp] at h
    exact h)
  have HG := Lib.hid fun (hn : nameL l = true) W (hW : Below w.heap.size w W) => great_any l hn W (hG.below hW (Nat.le_refl _))
  cases hn : nameL l with
  | true =>
    rw [nmL_yes hn, nmE_yes hn]
    rw [hn] at HI HG
    have HGy := Lib.hid (HG.out rfl)
    clear HG
    clear hG hn
    generalize B l = s at *
    generalize B (greatL l) = g at *
    go_enter Tryz.func21, Tryz.ntmps21
    go_wp2_with fail
    refine HI.out.mono ?_
    rintro e w1 ⟨rfl, hb1⟩
    have Hb1 := Lib.hid hb1
    clear hb1
    go_wp2_with fail
    refine (HGy.out _ Hb1.out).mono ?_
    rintro e w2 ⟨rfl, hb2⟩
    have Hb2 := Lib.hid (Hb1.out.trans (hb2.mono Hb1.out.size))
    clear hb2
    go_wp2_with fail
    go_ret2
    exact ⟨rfl, Hb2.out⟩
  | false =>
    rw [nmL_no hn, nmE_no hn]
    rw [hn] at HI
    clear hG hn HG
    generalize B l = s at *
    go_enter Tryz.func21, Tryz.ntmps21
    go_wp2_with fail
    refine HI.out.mono ?_
    rintro e w1 ⟨rfl, hb1⟩
    have Hb1 := Lib.hid hb1
    clear hb1
    go_wp2_with fail
    go_ret2
    exact ⟨rfl, Hb1.out⟩

/-! ### The document's -/
theorem gb_small {b : UInt8} (h : 97 ≤ b.toNat ∧ b.toNat ≤ 122) : ((gb b).toNat : Int) = b.toNat - 32 := by
  unfold gb
  rw [if_pos h, UInt8.toNat_sub_of_le _ _ (by rw [UInt8.le_iff_toNat_le]; show 32 ≤ b.toNat; omega)]
  show ((b.toNat - 32 : Nat) : Int) = _
  omega
theorem gb_point {b : UInt8} (h : b.toNat = 46) : ((gb b).toNat : Int) = 95 := by
  obtain rfl : b = 46 := UInt8.toNat_inj.1 h
  decide
theorem gb_other {b : UInt8} (h : ¬ (97 ≤ b.toNat ∧ b.toNat ≤ 122)) (h2 : b.toNat ≠ 46) : gb b = b := by
  unfold gb
  rw [if_neg h, if_neg (fun e => h2 (by rw [e]; rfl))]
/-- The first k bytes have been turned. -/
def gbAt (k j : Nat) (b : UInt8) : UInt8 := if j < k then gb b else b
structure Turns (w : World) (g k : Nat) (l : List UInt8) : Prop where
  cell : ∀ (j : Nat) (b : UInt8), l[j]? = some b → w.cell? ⟨g, j, none⟩ = some (.int .u8 ((gbAt k j b).toNat : Int))
  free : ∀ (j : Nat), j < l.length → w.frozen? ⟨g, j, none⟩ = false
theorem Turns.start {w : World} {g : Nat} {l : List UInt8} (h : Lies w g l) : Turns w g 0 l := ⟨fun j b hj => h.cell j b hj, h.free⟩
theorem Turns.below {w w' : World} {g k B : Nat} {l : List UInt8} (h : Turns w g k l) (hb : Below B w w') (hg : g < B) : Turns w' g k l :=
  ⟨fun j b hj => (hb.cell (p := ⟨g, j, none⟩) hg).trans (h.cell j b hj), fun j hj => (hb.frozen (p := ⟨g, j, none⟩) hg).trans (h.free j hj)⟩
theorem Turns.skip {w : World} {g k : Nat} {l : List UInt8} {b : UInt8} (h : Turns w g k l) (hb : l[k]? = some b) (hf : gb b = b) : Turns w g (k + 1) l := by
  refine ⟨fun j c hj => ?_, h.free⟩
  rw [h.cell j c hj]
  unfold gbAt
  by_cases h1 : j < k
  · rw [if_pos h1, if_pos (by omega)]
  · rw [if_neg h1]
    by_cases h2 : j < k + 1
    · obtain rfl : j = k := by omega
      rw [hb] at hj
      obtain rfl := Option.some.inj hj
      rw [if_pos h2, hf]
    · rw [if_neg h2]
theorem Turns.set {w : World} {g k : Nat} {l : List UInt8} {b : UInt8} {n : Int} (h : Turns w g k l) (hb : l[k]? = some b) (hn : n = ((gb b).toNat : Int)) : Turns (w.setCell ⟨g, k, none⟩ (.int .u8 n)) g (k + 1) l := by
  subst hn
  refine ⟨fun j c hj => ?_, fun j hj => by rw [World.frozen?_setCell]; exact h.free j hj⟩
  by_cases h1 : j = k
  · subst h1
    rw [hb] at hj
    obtain rfl := Option.some.inj hj
    rw [World.cell?_setCell_same w _ _ (h.cell j b hb)]
    unfold gbAt
    rw [if_pos (by omega)]
  · rw [World.cell?_setCell_other w _ _ _ (by intro e; injection e with _ e2 _; exact h1 e2.symm), h.cell j c hj]
    unfold gbAt
    by_cases h2 : j < k
    · rw [if_pos h2, if_pos (by omega)]
    · rw [if_neg h2, if_neg (by omega)]
theorem Turns.done {w : World} {g : Nat} {l : List UInt8} (h : Turns w g l.length l) : ∀ (j : Nat) (b : UInt8), (greatL l)[j]? = some b → w.cell? ⟨g, j, none⟩ = some (.int .u8 (b.toNat : Int)) := by
  intro j b hj
  simp only [greatL, List.getElem?_map, Option.map_eq_some_iff] at hj
  obtain ⟨c, hc, rfl⟩ := hj
  rw [h.cell j c hc]
  unfold gbAt
  rw [if_pos (lt_of_get hc)]

set_option maxHeartbeats 2000000 in
theorem refGreat_any (s : ByteArray) (hs : s.size ≤ 2147483647) (w : World) :
    Calls Tryz.prog 53 #[.string s] w fun e w' => e = .returned (.string (B (greatL s.data.toList))) ∧ Below w.heap.size w w' := by
  go_enter Tryz.func53, Tryz.ntmps53
  go_wp2_with (with_reducible refine wpList_bytes_of_string rfl 9 105 5 _ rfl s rfl Tryz.underlying9 Tryz.underlying105 Tryz.underlying5 ?_)
  intro bcap w2 hlies hb2 hzz hcap
  have HL := Lib.hid (Turns.start hlies)
  have HB2 := Lib.hid hb2
  have hsz2 := hb2.size
  clear hlies hb2
  go_wp2_with fail
  go_loopw [4] (fun i wr => ∃ k : Nat, k ≤ s.size ∧ i = .int .i64 k ∧ Turns wr w.heap.size k s.data.toList ∧ Below w.heap.size w wr ∧ w.heap.size < wr.heap.size) (fun i _ => s.size - (intOf i).toNat)
  case atStart => exact ⟨0, by omega, rfl, HL.out, HB2.out, hzz⟩
  case round =>
    obtain ⟨k, hk, rfl, hfo, hb, hlt0⟩ := hrel
    have Hfo := Lib.hid hfo
    have Hb := Lib.hid hb
    have hsz := hb.size
    clear hfo hb
    by_cases hlt : k < s.size
    · obtain ⟨b, hbl, _, hb0, hb1⟩ := byteAt s k hlt
      have hcell : wr.cell? ⟨w.heap.size, k, none⟩ = some (.int .u8 (b.toNat : Int)) := by
        rw [Hfo.out.cell k b hbl]; unfold gbAt; rw [if_neg (by omega)]
      have hfz : wr.frozen? ⟨w.heap.size, k, none⟩ = false := Hfo.out.free k (by simpa using hlt)
      have Hbl := Lib.hid hbl
      clear hbl
      by_cases hg : 97 ≤ b.toNat ∧ b.toNat ≤ 122
      · have Hf := Lib.hid (gb_small hg)
        obtain ⟨g1, g2⟩ := hg
        have g1' : (97 : Int) ≤ (b.toNat : Int) := by omega
        have g2' : (b.toNat : Int) ≤ 122 := by omega
        have g3 : ((b.toNat : Int) - 32 == 46) = false := by rw [beq_eq_false_iff_ne]; omega
        have HF3 := Lib.hid (Hfo.out.set (n := (b.toNat : Int) - 32) Hbl.out (by rw [Hf.out]))
        have HB3 := Lib.hid (Hb.out.setCell (p := ⟨w.heap.size, k, none⟩) (Nat.le_refl _) (.int .u8 ((b.toNat : Int) - 32)))
        clear g1 g2
        go_wp2_with fail
        go_roundw
        case rel => exact ⟨k + 1, by omega, by go_num, HF3.out, HB3.out, by simp; omega⟩
        case measure => simp [intOf]; omega
      · by_cases hp : b.toNat = 46
        · have Hf := Lib.hid (gb_point hp)
          have hp' : (b.toNat : Int) = 46 := by omega
          have HF3 := Lib.hid (Hfo.out.set (n := 95) Hbl.out (by rw [Hf.out]))
          have HB3 := Lib.hid (Hb.out.setCell (p := ⟨w.heap.size, k, none⟩) (Nat.le_refl _) (.int .u8 95))
          rw [hp'] at hcell
          clear hg hp
          go_wp2_with fail
          go_roundw
          case rel => exact ⟨k + 1, by omega, by go_num, HF3.out, HB3.out, by simp; omega⟩
          case measure => simp [intOf]; omega
        · have Hf := Lib.hid (gb_other hg hp)
          have HF3 := Lib.hid (Hfo.out.skip Hbl.out Hf.out)
          have g3 : ((b.toNat : Int) == 46) = false := by rw [beq_eq_false_iff_ne]; omega
          rcases (show (b.toNat : Int) < 97 ∨ (122 : Int) < (b.toNat : Int) by omega) with hg' | hg'
          all_goals
            clear hg hp
            go_wp2_with fail
            go_roundw
            case rel => exact ⟨k + 1, by omega, by go_num, HF3.out, Hb.out, by omega⟩
            case measure => simp [intOf]; omega
    · obtain rfl : k = s.size := by omega
      have hd : ∀ (j : Nat) (b : UInt8), (greatL s.data.toList)[j]? = some b → wr.cell? ⟨w.heap.size, j, none⟩ = some (.int .u8 (b.toNat : Int)) := Turns.done (by simpa using Hfo.out)
      have Hd := Lib.hid hd
      have Hlen : Hid ((greatL s.data.toList).length = s.size) := by show _ = _; rw [great_len]; simp
      clear hd
      go_wp2_with (with_reducible refine wpList_string_of_lies rfl 105 9 5 _ rfl w.heap.size s.size _ _ Hlen.out rfl Tryz.underlying105 Tryz.underlying5 Tryz.underlying9 Hd.out ?_)
      go_ret
      exact ⟨rfl, Hb.out⟩
theorem refName_any (l : List UInt8) (hl : l.length ≤ 2147483647) (w : World) :
    Calls Tryz.prog 22 #[.string (B l)] w fun e w' => e = .returned (.tuple #[.string (B (nmL l)), .int .i64 (nmE l)]) ∧ Below w.heap.size w w' := by
  have HI : Hid (Calls Tryz.prog 52 #[.string (B l)] w fun e w' => e = .returned (.bool (nameL l)) ∧ w = w') := Lib.hid ((refIsName_any (B l) (by rw [B_size]; omega) w).mono fun e w' h => by
    rw [show (B l).data.toList = l from by simp] at h
    exact h)
  have HG : Hid (Calls Tryz.prog 53 #[.string (B l)] w fun e w' => e = .returned (.string (B (greatL l))) ∧ Below w.heap.size w w') := Lib.hid ((refGreat_any (B l) (by rw [B_size]; omega) w).mono fun e w' h => by
    rw [show (B l).data.toList = l from by simp] at h
    exact h)
  cases hn : nameL l with
  | true =>
    rw [nmL_yes hn, nmE_yes hn]
    rw [hn] at HI
    clear hn
    generalize B l = s at *
    generalize B (greatL l) = g at *
    go_enter Tryz.func22, Tryz.ntmps22
    go_wp2_with fail
    refine HI.out.mono ?_
    rintro e w1 ⟨rfl, rfl⟩
    go_wp2_with fail
    refine HG.out.mono ?_
    rintro e w2 ⟨rfl, hb2⟩
    have Hb2 := Lib.hid hb2
    clear hb2
    go_wp2_with fail
    go_ret2
    exact ⟨rfl, Hb2.out⟩
  | false =>
    rw [nmL_no hn, nmE_no hn]
    rw [hn] at HI
    clear hn HG
    generalize B l = s at *
    go_enter Tryz.func22, Tryz.ntmps22
    go_wp2_with fail
    refine HI.out.mono ?_
    rintro e w1 ⟨rfl, rfl⟩
    go_wp2_with fail
    go_ret2
    exact ⟨rfl, Below.refl _ _⟩
end Go.Proofs.YtpfhhaonfbfheaaGreatDoor.en
/- Chapter 5 in plain words: definitions, what may be one, and sets of them. No program in sight beside the words of chapters 2 and 4; no conditions beside those stated. -/
namespace Go.Proofs.YtpfhhaonfbfheaaGreatDoor.ky
open gl va ls

/-! ### The order of texts -/
abbrev ltL : List UInt8 → List UInt8 → Bool := Op.bytesLess
theorem ltL_nil (a : List UInt8) : ltL a [] = false := by cases a <;> rfl
theorem ltL_cons (a b : UInt8) (x y : List UInt8) : ltL (a :: x) (b :: y) = (decide (a < b) || (a == b && ltL x y)) := rfl
theorem ltL_irrefl : ∀ a : List UInt8, ltL a a = false
  | [] => rfl
  | a :: x => by rw [ltL_cons, ltL_irrefl x]; simp
theorem ltL_trans : ∀ a b c : List UInt8, ltL a b = true → ltL b c = true → ltL a c = true
  | _, [], _, h, _ => by rw [ltL_nil] at h; cases h
  | _, _ :: _, [], _, h => by rw [ltL_nil] at h; cases h
  | [], _ :: _, _ :: _, _, _ => rfl
  | a :: x, b :: y, c :: z, h1, h2 => by
    rw [ltL_cons] at h1 h2 ⊢
    simp only [Bool.or_eq_true, decide_eq_true_eq, Bool.and_eq_true, beq_iff_eq, UInt8.lt_iff_toNat_lt] at h1 h2 ⊢
    rcases h1 with h1 | ⟨rfl, h1⟩
    · rcases h2 with h2 | ⟨rfl, h2⟩
      · exact .inl (by omega)
      · exact .inl h1
    · rcases h2 with h2 | ⟨rfl, h2⟩
      · exact .inl h2
      · exact .inr ⟨rfl, ltL_trans x y z h1 h2⟩
theorem ltL_total : ∀ a b : List UInt8, ltL a b = false → ltL b a = false → a = b
  | [], [], _, _ => rfl
  | [], _ :: _, h, _ => by cases h
  | _ :: _, [], _, h => by cases h
  | a :: x, b :: y, h1, h2 => by
    rw [ltL_cons] at h1 h2
    simp only [Bool.or_eq_false_iff, decide_eq_false_iff_not, Bool.and_eq_false_iff, beq_eq_false_iff_ne, UInt8.lt_iff_toNat_lt] at h1 h2
    obtain rfl : a = b := UInt8.toNat_inj.1 (by omega)
    rw [ltL_total x y (by rcases h1.2 with h | h; exact absurd rfl h; exact h) (by rcases h2.2 with h | h; exact absurd rfl h; exact h)]

def cmpL (a b : List UInt8) : Int := if ltL a b = true then -1 else if a = b then 0 else 1
theorem cmpB_eq : ∀ a b : List UInt8, Lib.compareBytes a b = cmpL a b
  | [], [] => rfl
  | [], b :: y => rfl
  | a :: x, [] => by
    unfold cmpL
    rw [ltL_nil]
    rfl
  | a :: x, b :: y => by
    have ih := cmpB_eq x y
    unfold Lib.compareBytes cmpL
    rw [ltL_cons]
    by_cases h1 : a < b
    · simp [h1]
    · by_cases h2 : b < a
      · have hne : (a == b) = false := by
          rw [beq_eq_false_iff_ne]
          rintro rfl
          exact h1 h2
        have hne' : a ≠ b := by simpa using hne
        simp [h1, h2, hne, hne']
      · obtain rfl : a = b := UInt8.le_antisymm (UInt8.not_lt.1 h2) (UInt8.not_lt.1 h1)
        simp only [h1, decide_false, BEq.rfl, Bool.true_and, Bool.false_or, if_false, ih, List.cons.injEq, true_and]
        rfl
/-- Where a text stands among texts that ascend, or would. -/
def FoundAt (ids : List (List UInt8)) (t : List UInt8) (k : Nat) (b : Bool) : Prop := k ≤ ids.length ∧ (∀ i x, ids[i]? = some x → (i < k ↔ ltL x t = true)) ∧ b = decide (ids[k]? = some t)
theorem pair_at {α : Type} {S : α → α → Prop} {l : List α} {i j : Nat} {x y : α} (h : l.Pairwise S) (hi : l[i]? = some x) (hj : l[j]? = some y) (hij : i < j) : S x y := by
  obtain ⟨h1, rfl⟩ := List.getElem?_eq_some_iff.1 hi
  obtain ⟨h2, rfl⟩ := List.getElem?_eq_some_iff.1 hj
  exact List.pairwise_iff_getElem.1 h i j h1 h2 hij
def Betw (ids : List (List UInt8)) (t : List UInt8) (i j : Nat) : Prop := ∀ k x, ids[k]? = some x → (k < i → ltL x t = true) ∧ (j ≤ k → ltL x t = false)
theorem betw_up {ids : List (List UInt8)} {t x : List UInt8} {i j h : Nat} (ha : ids.Pairwise fun a b => ltL a b = true) (hB : Betw ids t i j) (hx : ids[h]? = some x) (hl : ltL x t = true) : Betw ids t (h + 1) j := by
  intro k y hy
  refine ⟨fun hk => ?_, (hB k y hy).2⟩
  by_cases he : k = h
  · subst he
    obtain rfl := Option.some.inj (hx.symm.trans hy)
    exact hl
  · exact ltL_trans _ _ _ (pair_at (S := fun a b => ltL a b = true) ha hy hx (by omega)) hl
theorem betw_dn {ids : List (List UInt8)} {t x : List UInt8} {i j h : Nat} (ha : ids.Pairwise fun a b => ltL a b = true) (hB : Betw ids t i j) (hx : ids[h]? = some x) (hl : ltL x t = false) : Betw ids t i h := by
  intro k y hy
  refine ⟨(hB k y hy).1, fun hk => ?_⟩
  by_cases he : k = h
  · subst he
    obtain rfl := Option.some.inj (hx.symm.trans hy)
    exact hl
  · cases hc : ltL y t with
    | false => rfl
    | true =>
      have := ltL_trans _ _ _ (pair_at (S := fun a b => ltL a b = true) ha hx hy (by omega)) hc
      rw [hl] at this
      cases this
theorem betw_end {ids : List (List UInt8)} {t : List UInt8} {i : Nat} (hi : i ≤ ids.length) (hB : Betw ids t i i) : FoundAt ids t i (decide (ids[i]? = some t)) := by
  refine ⟨hi, fun k x hx => ⟨(hB k x hx).1, fun hl => ?_⟩, rfl⟩
  rcases Nat.lt_or_ge k i with h | h
  · exact h
  · rw [(hB k x hx).2 h] at hl
    cases hl

/-! ### Definitions -/
structure Ky where
  name : List UInt8
  kind : Int
  dflt : List UInt8
  least : Int
  most : Int
  letter : List UInt8
deriving DecidableEq
def zK : Ky := ⟨[], 0, [], 0, 0, []⟩
def kyC (x : Ky) : List Value := [.string (B x.name), .int .i64 x.kind, .string (B x.dflt), .int .i64 x.least, .int .i64 x.most, .string (B x.letter)]
def kyV (x : Ky) : Value := .agg #[.string (B x.name), .int .i64 x.kind, .string (B x.dflt), .int .i64 x.least, .int .i64 x.most, .string (B x.letter)]
theorem kyC_len (x : Ky) : (kyC x).length = 6 := rfl
theorem kyC_one (x : Ky) : ∀ v ∈ kyC x, v.oneCell' = true := by
  intro v hv
  simp only [kyC, List.mem_cons, List.not_mem_nil, or_false] at hv
  rcases hv with rfl | rfl | rfl | rfl | rfl | rfl <;> rfl
/-- Texts of lengths that may be. -/
def KyOk (x : Ky) : Prop := x.name.length ≤ 2147483647 ∧ x.dflt.length ≤ 2147483647 ∧ x.letter.length ≤ 2147483647 ∧ (-9223372036854775808 ≤ x.kind ∧ x.kind ≤ 9223372036854775807) ∧ (-9223372036854775808 ≤ x.least ∧ x.least ≤ 9223372036854775807) ∧ (-9223372036854775808 ≤ x.most ∧ x.most ≤ 9223372036854775807)
def letterL : List UInt8 → Bool
  | [] => true
  | [b] => decide (97 ≤ b.toNat) && decide (b.toNat ≤ 122) && decide (b.toNat ≠ 104)
  | _ => false
/-- The bounds of a kind's numbers. -/
def bndL (k : Int) : Int × Int × Bool :=
  if k = 2 then (-4611686018427387904, 4611686018427387904, true) else if k = 3 then (0, 1125899906842624, true) else if k = 4 then (0, 1099511627776, true) else if k = 6 then (0, 16, true) else (0, 0, false)
def formL (x : Ky) : Bool := nameL x.name && letterL x.letter && (if (bndL x.kind).2.2 = true then decide ((bndL x.kind).1 ≤ x.least) && decide (x.least ≤ x.most) && decide (x.most ≤ (bndL x.kind).2.1) else decide (x.kind = 1 ∨ x.kind = 5) && decide (x.least = 0) && decide (x.most = 0))
def findK (S : List Ky) (t : List UInt8) : Option Ky := S.find? fun y => decide (y.name = t)
def lettK (S : List Ky) (t : List UInt8) : Option Ky := if t = [] then none else S.find? fun y => decide (y.letter = t)
def insK (S : List Ky) (x : Ky) : List Ky := (S.takeWhile fun y => ltL y.name x.name) ++ x :: (S.dropWhile fun y => ltL y.name x.name)
/-- A set's definitions ascend by their names. -/
def AscK (S : List Ky) : Prop := (S.map (·.name)).Pairwise fun a b => ltL a b = true

/-! ### Search -/
theorem find_none {S : List Ky} {t : List UInt8} (h : findK S t = none) : ∀ y ∈ S, y.name ≠ t := by
  intro y hy e
  have := List.find?_eq_none.1 h y hy
  simp [e] at this
theorem find_some {S : List Ky} {t : List UInt8} {x : Ky} (h : findK S t = some x) : x ∈ S ∧ x.name = t := by
  refine ⟨List.mem_of_find?_eq_some h, ?_⟩
  have := List.find?_some h
  simpa using this
theorem asc_inj {S : List Ky} (ha : AscK S) {i j : Nat} {x y : Ky} (hi : S[i]? = some x) (hj : S[j]? = some y) (he : x.name = y.name) : i = j := by
  have hi' : (S.map (·.name))[i]? = some x.name := by rw [List.getElem?_map, hi]; rfl
  have hj' : (S.map (·.name))[j]? = some y.name := by rw [List.getElem?_map, hj]; rfl
  rcases Nat.lt_trichotomy i j with h | h | h
  · have := pair_at (S := fun a b => ltL a b = true) ha hi' hj' h
    rw [he, ltL_irrefl] at this
    cases this
  · exact h
  · have := pair_at (S := fun a b => ltL a b = true) ha hj' hi' h
    rw [he, ltL_irrefl] at this
    cases this
/-- What the binary search tells. -/
theorem found_find {S : List Ky} {t : List UInt8} {k : Nat} {b : Bool} (ha : AscK S) (h : FoundAt (S.map (·.name)) t k b) : (b = true → ∃ x, S[k]? = some x ∧ findK S t = some x) ∧ (b = false → findK S t = none) := by
  obtain ⟨_, h2, h3⟩ := h
  refine ⟨fun hb => ?_, fun hb => ?_⟩
  · rw [hb] at h3
    have h4 := of_decide_eq_true h3.symm
    rw [List.getElem?_map] at h4
    obtain ⟨x, hx, hn⟩ := Option.map_eq_some_iff.1 h4
    refine ⟨x, hx, ?_⟩
    cases hf : findK S t with
    | none => exact absurd hn (find_none hf x (List.mem_of_getElem? hx))
    | some y =>
      obtain ⟨hy, hyn⟩ := find_some hf
      obtain ⟨j, hj⟩ := List.getElem?_of_mem hy
      have := asc_inj ha hx hj (hn.trans hyn.symm)
      subst this
      exact hj.symm.trans hx
  · rw [hb] at h3
    have h4 := of_decide_eq_false h3.symm
    cases hf : findK S t with
    | none => rfl
    | some y =>
      obtain ⟨hy, hyn⟩ := find_some hf
      obtain ⟨j, hj⟩ := List.getElem?_of_mem hy
      have hj' : (S.map (·.name))[j]? = some t := by rw [List.getElem?_map, hj, ← hyn]; rfl
      exfalso
      have hjk : ¬ j < k := fun hlt => by
        have := (h2 j t hj').1 hlt
        rw [ltL_irrefl] at this
        cases this
      rcases Nat.lt_or_ge k j with hlt | hge
      · obtain ⟨z, hz⟩ : ∃ z, (S.map (·.name))[k]? = some z := ⟨_, List.getElem?_eq_getElem (by have := lt_get hj'; omega)⟩
        have hzt := pair_at (S := fun a b => ltL a b = true) ha hz hj' hlt
        have := (h2 k z hz).2 hzt
        omega
      · obtain rfl : j = k := by omega
        exact h4 hj'
/-- Where the new one goes. -/
theorem ins_at {S : List Ky} {x : Ky} {k : Nat} {b : Bool} (h : FoundAt (S.map (·.name)) x.name k b) : insK S x = S.take k ++ x :: S.drop k := by
  obtain ⟨h1, h2, _⟩ := h
  rw [List.length_map] at h1
  have hS : S = S.take k ++ S.drop k := (List.take_append_drop k S).symm
  have htk : ∀ y ∈ S.take k, ltL y.name x.name = true := fun y hy => by
    obtain ⟨i, hi⟩ := List.getElem?_of_mem hy
    rw [List.getElem?_take] at hi
    split at hi
    · rename_i hik
      exact (h2 i y.name (by rw [List.getElem?_map, hi]; rfl)).1 hik
    · cases hi
  have hdk : ∀ y, (S.drop k).head? = some y → ltL y.name x.name = false := fun y hy => by
    rw [List.head?_drop] at hy
    cases hl : ltL y.name x.name with
    | false => rfl
    | true =>
      have := (h2 k y.name (by rw [List.getElem?_map, hy]; rfl)).2 hl
      omega
  have hdw : ∀ l : List Ky, (∀ y, l.head? = some y → ltL y.name x.name = false) → l.takeWhile (fun y => ltL y.name x.name) = [] ∧ l.dropWhile (fun y => ltL y.name x.name) = l := fun l hl => by
    cases l with
    | nil => exact ⟨rfl, rfl⟩
    | cons y r =>
      have := hl y rfl
      exact ⟨by rw [List.takeWhile_cons, this]; rfl, by rw [List.dropWhile_cons, this]; rfl⟩
  obtain ⟨e1, e2⟩ := hdw _ hdk
  unfold insK
  conv => lhs; rw [hS]
  rw [List.takeWhile_append_of_pos htk, List.dropWhile_append_of_pos htk, e1, e2, List.append_nil]
theorem ins_asc {S : List Ky} {x : Ky} {k : Nat} {b : Bool} (ha : AscK S) (h : FoundAt (S.map (·.name)) x.name k b) (hn : findK S x.name = none) : AscK (insK S x) := by
  have e := ins_at h
  obtain ⟨h1, h2, _⟩ := h
  rw [e]
  unfold AscK at ha ⊢
  rw [List.map_append, List.map_cons, List.pairwise_append]
  have hm : (S.take k).map (·.name) = (S.map (·.name)).take k := List.map_take
  have hd : (S.drop k).map (·.name) = (S.map (·.name)).drop k := List.map_drop
  have hlo : ∀ a ∈ (S.map (·.name)).take k, ltL a x.name = true := fun a haa => by
    obtain ⟨i, hi⟩ := List.getElem?_of_mem haa
    rw [List.getElem?_take] at hi
    split at hi
    · rename_i hik
      exact (h2 i a hi).1 hik
    · cases hi
  have hhi : ∀ a ∈ (S.map (·.name)).drop k, ltL x.name a = true := fun a haa => by
    obtain ⟨i, hi⟩ := List.getElem?_of_mem haa
    rw [List.getElem?_drop] at hi
    have hge : ltL a x.name = false := by
      cases hl : ltL a x.name with
      | false => rfl
      | true => have := (h2 (k + i) a hi).2 hl; omega
    cases hl : ltL x.name a with
    | true => rfl
    | false =>
      have he := ltL_total _ _ hge hl
      obtain ⟨y, hy, hyn⟩ := List.mem_map.1 (List.mem_of_getElem? hi)
      exact absurd (hyn.trans he) (find_none hn y hy)
  have hsub := List.pairwise_append.1 (by rw [List.take_append_drop]; exact ha : ((S.map (·.name)).take k ++ (S.map (·.name)).drop k).Pairwise fun a b => ltL a b = true)
  rw [hm, hd]
  refine ⟨hsub.1, List.pairwise_cons.2 ⟨hhi, hsub.2.1⟩, fun a ha' b hb' => ?_⟩
  rcases List.mem_cons.1 hb' with rfl | hb'
  · exact hlo a ha'
  · exact hsub.2.2 a ha' b hb'
end Go.Proofs.YtpfhhaonfbfheaaGreatDoor.ky
/- A law on memory for any program: an append of elements that were just laid, to a row of one-cell elements that the call owns. No conditions beside those stated. -/
namespace Go.Proofs.YtpfhhaonfbfheaaGreatDoor
open Go.RowKit
section
variable {P : Program}

/-- 'append(out, x, y ..)', out a row of one-cell elements of the call's own (or nil): the new row. -/
theorem wpList_append_lit {ops : Array Oper} {rest : List Oper} {o : Oper} {a : Act} {w : World} {Q : Exit → Act → World → Prop} (hgd : o.guard = none) (s x : Operand) (t : TypeId)
    (ho : o.op = .call { callee := .builtin .append, args := #[s, x], argTypes := #[t, t] })
    (e : TypeId) (i : TypeInfo) (z : Value) (bytes : Nat) (ht : P.underlying t = some (.slice e)) (hi : P.info? e = some i) (hz : i.zero = some z)
    (hsize : i.size = 1) (hby : i.bytes = bytes) (hzs : z.cells.size = 1) (cs : Array Value) (m : Nat) (hm : 0 < m) (hx : a.eval x = .slice (some ⟨w.heap.size, 0, none⟩) m m) (hl : cs.size = m)
    (base : Nat) (v : Value) (n : Nat) (xs : List Value) (hs : a.eval s = v) (hown : w.ownsRow base e 1 v n xs)
    (h1 : ∀ u ∈ cs.toList, u.oneCell' = true) (h63 : n + m ≤ 9223372036854775807) (hbytes : (n + m) * bytes ≤ 140737488355328) (hbase : base ≤ w.heap.size)
    (h : ∀ g cap w', w'.ownsRow base e 1 (.slice (some ⟨g, 0, none⟩) (n + m) cap) (n + m) (xs ++ cs.toList) → w.grownBy w' v.ownBlock → (v.ownBlock = some g ∨ w.heap.size ≤ g) → w.heap.size < w'.heap.size → g < w'.heap.size →
      wpList P ops Q rest (a.put o.dst (.slice (some ⟨g, 0, none⟩) (n + m) cap)) w') :
    wpList P ops Q (o :: rest) a (w.alloc (.cells cs e)) := by
  refine wpList_append_lies (w.alloc (.cells cs e)) hgd s x t ho base e i z 1 bytes ht hi hz hsize hby hzs (by omega) v n xs hs (hown.alloc _) ⟨w.heap.size, 0, none⟩ m m cs.toList hx (by simpa using hl)
    (World.news_of_block (heap_alloc_new w _)) h1 hm (by unfold maxLen; omega) hbytes (by simp; omega) (w.heap.size + 1) (by simp) fun g cap w' h2 h3 h4 h5 => ?_
  refine h g cap w' h2 ⟨h3.os, h3.tape, h3.output, by have := h3.size; simp at this; omega, fun k hk hne => (h3.block k (by simp; omega) hne).trans (Below.heap_alloc w _ k hk)⟩ ?_ (by have := h3.size; simp at this; omega) h5
  rcases h4 with h4 | h4
  · exact .inl h4
  · exact .inr (by omega)

/-- The same at a step of a region that draws its order. -/
theorem step_append_lit {ops : Array Oper} {o : Oper} {a : Act} {w : World} {K : Act → World → Prop} {Q : Exit → Act → World → Prop} {E : Prop} (hgd : o.guard = none) (s x : Operand) (t : TypeId)
    (ho : o.op = .call { callee := .builtin .append, args := #[s, x], argTypes := #[t, t] })
    (e : TypeId) (i : TypeInfo) (z : Value) (bytes : Nat) (ht : P.underlying t = some (.slice e)) (hi : P.info? e = some i) (hz : i.zero = some z)
    (hsize : i.size = 1) (hby : i.bytes = bytes) (hzs : z.cells.size = 1) (cs : Array Value) (m : Nat) (hm : 0 < m) (hx : a.eval x = .slice (some ⟨w.heap.size, 0, none⟩) m m) (hl : cs.size = m)
    (base : Nat) (v : Value) (n : Nat) (xs : List Value) (hs : a.eval s = v) (hown : w.ownsRow base e 1 v n xs)
    (h1 : ∀ u ∈ cs.toList, u.oneCell' = true) (h63 : n + m ≤ 9223372036854775807) (hbytes : (n + m) * bytes ≤ 140737488355328) (hbase : base ≤ w.heap.size)
    (h : ∀ g cap w', w'.ownsRow base e 1 (.slice (some ⟨g, 0, none⟩) (n + m) cap) (n + m) (xs ++ cs.toList) → w.grownBy w' v.ownBlock → (v.ownBlock = some g ∨ w.heap.size ≤ g) → w.heap.size < w'.heap.size → g < w'.heap.size →
      K (a.put o.dst (.slice (some ⟨g, 0, none⟩) (n + m) cap)) w') :
    if Region.wanted o (yielded ops a.tmps) = true then Oper.wp P o a (w.alloc (.cells cs e)).drew K Q else E := by
  refine step_append_lies (w.alloc (.cells cs e)).drew hgd s x t ho base e i z 1 bytes ht hi hz hsize hby hzs (by omega) v n xs hs (hown.alloc _) ⟨w.heap.size, 0, none⟩ m m cs.toList hx (by simpa using hl)
    (World.news_of_block (heap_alloc_new w _)) h1 hm (by unfold maxLen; omega) hbytes (by simp; omega) (w.heap.size + 1) (by simp) fun g cap w' h2 h3 h4 h5 => ?_
  refine h g cap w' h2 ⟨h3.os, h3.tape, h3.output, by have := h3.size; simp at this; omega, fun k hk hne => (h3.block k (by simp; omega) hne).trans (Below.heap_alloc w _ k hk)⟩ ?_ (by have := h3.size; simp at this; omega) h5
  rcases h4 with h4 | h4
  · exact .inl h4
  · exact .inr (by omega)
end

/-- Behind such an append old memory is as it was. -/
theorem below_grown_own {B : Nat} {w0 w w' : World} {e : TypeId} {size n : Nat} {v : Value} {xs : List Value} (hb : Below B w0 w) (hown : w.ownsRow B e size v n xs) (hg : w.grownBy w' v.ownBlock) (hB : B ≤ w.heap.size) : Below B w0 w' :=
  hb.grown hg hB fun k hk => (hown.lt k hk).1
end Go.Proofs.YtpfhhaonfbfheaaGreatDoor
/- A law on memory for any program: an append of one struct that was just laid, to a row of such structs that the call owns. No conditions beside those stated. -/
namespace Go.Proofs.YtpfhhaonfbfheaaGreatDoor
open Go.RowKit
section
variable {P : Program}
/-- 'append(out, x)', x a struct of size cells. -/
theorem wpList_append_k {ops : Array Oper} {rest : List Oper} {o : Oper} {a : Act} {w : World} {Q : Exit → Act → World → Prop} (hgd : o.guard = none) (s x : Operand) (t : TypeId)
    (ho : o.op = .call { callee := .builtin .append, args := #[s, x], argTypes := #[t, t] })
    (e : TypeId) (i : TypeInfo) (z : Value) (size bytes : Nat) (ht : P.underlying t = some (.slice e)) (hi : P.info? e = some i) (hz : i.zero = some z)
    (hsize : i.size = size) (hby : i.bytes = bytes) (hzs : z.cells.size = size) (hsz : 0 < size) (cs : Array Value) (hx : a.eval x = .slice (some ⟨w.heap.size, 0, none⟩) 1 1) (hl : cs.size = size)
    (base : Nat) (v : Value) (n : Nat) (xs : List Value) (hs : a.eval s = v) (hown : w.ownsRow base e size v n xs)
    (h1 : ∀ u ∈ cs.toList, u.oneCell' = true) (h63 : n + 1 ≤ 9223372036854775807) (hbytes : (n + 1) * bytes ≤ 140737488355328) (hbase : base ≤ w.heap.size)
    (h : ∀ g cap w', w'.ownsRow base e size (.slice (some ⟨g, 0, none⟩) (n + 1) cap) (n + 1) (xs ++ cs.toList) → w.grownBy w' v.ownBlock → (v.ownBlock = some g ∨ w.heap.size ≤ g) → w.heap.size < w'.heap.size → g < w'.heap.size →
      wpList P ops Q rest (a.put o.dst (.slice (some ⟨g, 0, none⟩) (n + 1) cap)) w') :
    wpList P ops Q (o :: rest) a (w.alloc (.cells cs e)) := by
  refine wpList_append_lies (w.alloc (.cells cs e)) hgd s x t ho base e i z size bytes ht hi hz hsize hby hzs hsz v n xs hs (hown.alloc _) ⟨w.heap.size, 0, none⟩ 1 1 cs.toList hx (by simpa using hl)
    (World.news_of_block (heap_alloc_new w _)) h1 (by omega) (by unfold maxLen; omega) hbytes (by simp; omega) (w.heap.size + 1) (by simp) fun g cap w' h2 h3 h4 h5 => ?_
  refine h g cap w' h2 ⟨h3.os, h3.tape, h3.output, by have := h3.size; simp at this; omega, fun k hk hne => (h3.block k (by simp; omega) hne).trans (Below.heap_alloc w _ k hk)⟩ ?_ (by have := h3.size; simp at this; omega) h5
  rcases h4 with h4 | h4
  · exact .inl h4
  · exact .inr (by omega)
/-- The same at a step of a region that draws its order. -/
theorem step_append_k {ops : Array Oper} {o : Oper} {a : Act} {w : World} {K : Act → World → Prop} {Q : Exit → Act → World → Prop} {E : Prop} (hgd : o.guard = none) (s x : Operand) (t : TypeId)
    (ho : o.op = .call { callee := .builtin .append, args := #[s, x], argTypes := #[t, t] })
    (e : TypeId) (i : TypeInfo) (z : Value) (size bytes : Nat) (ht : P.underlying t = some (.slice e)) (hi : P.info? e = some i) (hz : i.zero = some z)
    (hsize : i.size = size) (hby : i.bytes = bytes) (hzs : z.cells.size = size) (hsz : 0 < size) (cs : Array Value) (hx : a.eval x = .slice (some ⟨w.heap.size, 0, none⟩) 1 1) (hl : cs.size = size)
    (base : Nat) (v : Value) (n : Nat) (xs : List Value) (hs : a.eval s = v) (hown : w.ownsRow base e size v n xs)
    (h1 : ∀ u ∈ cs.toList, u.oneCell' = true) (h63 : n + 1 ≤ 9223372036854775807) (hbytes : (n + 1) * bytes ≤ 140737488355328) (hbase : base ≤ w.heap.size)
    (h : ∀ g cap w', w'.ownsRow base e size (.slice (some ⟨g, 0, none⟩) (n + 1) cap) (n + 1) (xs ++ cs.toList) → w.grownBy w' v.ownBlock → (v.ownBlock = some g ∨ w.heap.size ≤ g) → w.heap.size < w'.heap.size → g < w'.heap.size →
      K (a.put o.dst (.slice (some ⟨g, 0, none⟩) (n + 1) cap)) w') :
    if Region.wanted o (yielded ops a.tmps) = true then Oper.wp P o a (w.alloc (.cells cs e)).drew K Q else E := by
  refine step_append_lies (w.alloc (.cells cs e)).drew hgd s x t ho base e i z size bytes ht hi hz hsize hby hzs hsz v n xs hs (hown.alloc _) ⟨w.heap.size, 0, none⟩ 1 1 cs.toList hx (by simpa using hl)
    (World.news_of_block (heap_alloc_new w _)) h1 (by omega) (by unfold maxLen; omega) hbytes (by simp; omega) (w.heap.size + 1) (by simp) fun g cap w' h2 h3 h4 h5 => ?_
  refine h g cap w' h2 ⟨h3.os, h3.tape, h3.output, by have := h3.size; simp at this; omega, fun k hk hne => (h3.block k (by simp; omega) hne).trans (Below.heap_alloc w _ k hk)⟩ ?_ (by have := h3.size; simp at this; omega) h5
  rcases h4 with h4 | h4
  · exact .inl h4
  · exact .inr (by omega)
/-- The same, behind a call. -/
theorem step_append_k0 {ops : Array Oper} {o : Oper} {a : Act} {w : World} {K : Act → World → Prop} {Q : Exit → Act → World → Prop} {E : Prop} (hgd : o.guard = none) (s x : Operand) (t : TypeId)
    (ho : o.op = .call { callee := .builtin .append, args := #[s, x], argTypes := #[t, t] })
    (e : TypeId) (i : TypeInfo) (z : Value) (size bytes : Nat) (ht : P.underlying t = some (.slice e)) (hi : P.info? e = some i) (hz : i.zero = some z)
    (hsize : i.size = size) (hby : i.bytes = bytes) (hzs : z.cells.size = size) (hsz : 0 < size) (cs : Array Value) (hx : a.eval x = .slice (some ⟨w.heap.size, 0, none⟩) 1 1) (hl : cs.size = size)
    (base : Nat) (v : Value) (n : Nat) (xs : List Value) (hs : a.eval s = v) (hown : w.ownsRow base e size v n xs)
    (h1 : ∀ u ∈ cs.toList, u.oneCell' = true) (h63 : n + 1 ≤ 9223372036854775807) (hbytes : (n + 1) * bytes ≤ 140737488355328) (hbase : base ≤ w.heap.size)
    (h : ∀ g cap w', w'.ownsRow base e size (.slice (some ⟨g, 0, none⟩) (n + 1) cap) (n + 1) (xs ++ cs.toList) → w.grownBy w' v.ownBlock → (v.ownBlock = some g ∨ w.heap.size ≤ g) → w.heap.size < w'.heap.size → g < w'.heap.size →
      K (a.put o.dst (.slice (some ⟨g, 0, none⟩) (n + 1) cap)) w') :
    if Region.wanted o (yielded ops a.tmps) = true then Oper.wp P o a (w.alloc (.cells cs e)) K Q else E := by
  refine step_append_lies (w.alloc (.cells cs e)) hgd s x t ho base e i z size bytes ht hi hz hsize hby hzs hsz v n xs hs (hown.alloc _) ⟨w.heap.size, 0, none⟩ 1 1 cs.toList hx (by simpa using hl)
    (World.news_of_block (heap_alloc_new w _)) h1 (by omega) (by unfold maxLen; omega) hbytes (by simp; omega) (w.heap.size + 1) (by simp) fun g cap w' h2 h3 h4 h5 => ?_
  refine h g cap w' h2 ⟨h3.os, h3.tape, h3.output, by have := h3.size; simp at this; omega, fun k hk hne => (h3.block k (by simp; omega) hne).trans (Below.heap_alloc w _ k hk)⟩ ?_ (by have := h3.size; simp at this; omega) h5
  rcases h4 with h4 | h4
  · exact .inl h4
  · exact .inr (by omega)
end
end Go.Proofs.YtpfhhaonfbfheaaGreatDoor
/- A law on memory for any program: the elements of any slice, none too, appended to a row that the call owns. No conditions beside those stated. -/
namespace Go.Proofs.YtpfhhaonfbfheaaGreatDoor
open Go.RowKit
/-- m elements of the cells news, readable at a slice value. -/
def SrcV (w : World) (y : Value) (m : Nat) (news : List Value) : Prop :=
  (m = 0 ∧ news = [] ∧ ∃ q c, y = .slice q 0 c) ∨ (0 < m ∧ ∃ ad c, y = .slice (some ad) m c ∧ ∀ j u, news[j]? = some u → w.cell? (ad.add j) = some u)
section
variable {P : Program}
theorem run_append_any (w : World) (t ty : TypeId) (base : Nat) (e : TypeId) (i : TypeInfo) (z : Value) (size bytes : Nat) (ht : P.underlying t = some (.slice e)) (hi : P.info? e = some i) (hz : i.zero = some z)
    (hsize : i.size = size) (hby : i.bytes = bytes) (hzs : z.cells.size = size) (hsz : 0 < size)
    (v : Value) (n : Nat) (xs : List Value) (hown : w.ownsRow base e size v n xs) (y : Value) (m : Nat) (news : List Value) (hy : SrcV w y m news) (hl : news.length = m * size) (h1 : ∀ u ∈ news, u.oneCell' = true)
    (h63 : n + m ≤ maxLen) (hbytes : (n + m) * bytes ≤ 140737488355328) (hbase : base ≤ w.heap.size) :
    ∃ p cap w', (Builtin.append_ #[t, t] ty #[v, y]).run P w = .ok (.slice p (n + m) cap) w' ∧
      w'.ownsRow base e size (.slice p (n + m) cap) (n + m) (xs ++ news) ∧ w.grownBy w' v.ownBlock := by
  rcases hy with ⟨rfl, rfl, q, c, rfl⟩ | ⟨hm, ad, c, rfl, hc⟩
  · have hf : ∃ p cap, v = .slice p n cap ∧ n ≤ cap := by
      rcases hown.2 with ⟨rfl, h0⟩ | ⟨g, cap, cur, rfl, _, _, hn, _⟩
      · exact ⟨none, 0, by rw [h0], by omega⟩
      · exact ⟨_, _, rfl, hn⟩
    obtain ⟨p, cap, rfl, hle⟩ := hf
    have hsrc : Src P i.size t (.slice q 0 c) 0 [] w := by
      cases q with
      | none => exact Src.ofNil w ht c
      | some ad => exact Src.ofSlice w ht ad 0 c [] (by simp) (fun j u h => by simp at h) (fun u h => by simp at h)
    refine ⟨p, cap, w, run_append_nothing w t t ty e i ht hi p n cap hle _ hsrc, by simpa using hown, ?_⟩
    exact ⟨rfl, rfl, rfl, Nat.le_refl _, fun _ _ _ => rfl⟩
  · obtain ⟨g, cap, w', hr, h2, h3, _, _⟩ := run_append_lies (P := P) w t ty base e i z size bytes ht hi hz hsize hby hzs hsz v n xs hown ad m c news hl hc h1 hm h63 hbytes hbase _ rfl
    exact ⟨_, cap, w', hr, h2, h3⟩
theorem wpList_append_any {ops : Array Oper} {rest : List Oper} {o : Oper} {a : Act} {w : World} {Q : Exit → Act → World → Prop} (hgd : o.guard = none) (s x : Operand) (t : TypeId)
    (ho : o.op = .call { callee := .builtin .append, args := #[s, x], argTypes := #[t, t] })
    (e : TypeId) (i : TypeInfo) (z : Value) (size bytes : Nat) (ht : P.underlying t = some (.slice e)) (hi : P.info? e = some i) (hz : i.zero = some z)
    (hsize : i.size = size) (hby : i.bytes = bytes) (hzs : z.cells.size = size) (hsz : 0 < size)
    (base : Nat) (v : Value) (n : Nat) (xs : List Value) (hs : a.eval s = v) (hown : w.ownsRow base e size v n xs) (y : Value) (m : Nat) (news : List Value) (hx : a.eval x = y) (hy : SrcV w y m news) (hl : news.length = m * size)
    (h1 : ∀ u ∈ news, u.oneCell' = true) (h63 : n + m ≤ 9223372036854775807) (hbytes : (n + m) * bytes ≤ 140737488355328) (hbase : base ≤ w.heap.size)
    (h : ∀ p cap w', w'.ownsRow base e size (.slice p (n + m) cap) (n + m) (xs ++ news) → w.grownBy w' v.ownBlock → wpList P ops Q rest (a.put o.dst (.slice p (n + m) cap)) w') :
    wpList P ops Q (o :: rest) a w := by
  refine wpList_plain hgd fun K hK => ?_
  obtain ⟨p, cap, w', hr, h2, h3⟩ := run_append_any (P := P) w t o.type base e i z size bytes ht hi hz hsize hby hzs hsz v n xs hown y m news hy hl h1 (by unfold maxLen; omega) hbytes hbase
  unfold Oper.wp execOp
  simp only [ho, resolve, invoke, builtin, Sem.run_bind, Sem.run_pure, Result.andThen_ok, List.map_toArray, List.map_cons, List.map_nil, hs, hx, hr]
  exact hK _ _ (h p cap w' h2 h3)
end
end Go.Proofs.YtpfhhaonfbfheaaGreatDoor
/- Laws on memory for any program: an append to a slice that lies at the head of a block, with room behind it or none. No program in sight; no conditions beside those stated. -/
namespace Go.Proofs.YtpfhhaonfbfheaaGreatDoor
open Go.RowKit ls
/-- A slice at the head of a block from M on: n elements of k cells, these cells. -/
def Blk (T : TypeId) (k M : Nat) (w : World) (v : Value) (n : Nat) (xs : List Value) : Prop :=
  xs.length = n * k ∧ ((v = .slice none 0 0 ∧ n = 0) ∨ ∃ g c cs, v = .slice (some ⟨g, 0, none⟩) n c ∧ n ≤ c ∧ M ≤ g ∧ w.heap[g]? = some (.cells cs T (0, 0)) ∧ c * k ≤ cs.size ∧ cs.toList.take (n * k) = xs)
/-- Each block of cells is one still, of as many cells. -/
def Sh (w w' : World) : Prop := ∀ (g : Nat) (cs : Array Value) (T : TypeId), w.heap[g]? = some (.cells cs T (0, 0)) → ∃ cs', w'.heap[g]? = some (.cells cs' T (0, 0)) ∧ cs'.size = cs.size
theorem Sh.refl (w : World) : Sh w w := fun _ cs _ h => ⟨cs, h, rfl⟩
theorem Sh.trans {a b c : World} (h : Sh a b) (h2 : Sh b c) : Sh a c := fun g cs T hg => by
  obtain ⟨c1, e1, e2⟩ := h g cs T hg
  obtain ⟨c2, e3, e4⟩ := h2 g c1 T e1
  exact ⟨c2, e3, e4.trans e2⟩
theorem Sh.of_below {w w' : World} (h : Below w.heap.size w w') : Sh w w' := fun g cs _ hg => ⟨cs, (h.block g (lt_of_block hg)).trans hg, rfl⟩
theorem Sh.alloc (w : World) (o : Obj) : Sh w (w.alloc o) := Sh.of_below ((Below.refl _ _).alloc (Nat.le_refl _) o)
theorem Sh.setCells {w : World} {b : Nat} {cs : Array Value} {T : TypeId} (hb : w.heap[b]? = some (.cells cs T (0, 0))) (o : Nat) (vs : List Value) : Sh w (w.setCells b o vs) := fun g c U hg => by
  by_cases h : g = b
  · subst h
    rw [hg] at hb
    cases hb
    exact ⟨_, heap_setCells vs w _ o hg, setR_size _ _ _⟩
  · exact ⟨c, (heap_setCells_ne h vs w o).trans hg, rfl⟩
theorem Sh.setCell {w : World} {b : Nat} {cs : Array Value} {T : TypeId} (hb : w.heap[b]? = some (.cells cs T (0, 0))) (o : Nat) (u : Value) : Sh w (w.setCell ⟨b, o, none⟩ u) := Sh.setCells hb o [u]
theorem Sh.of_none {w w' : World} (h : w.grownBy w' none) : Sh w w' := fun g cs _ hg => ⟨cs, (h.block g (lt_of_block hg) (by simp)).trans hg, rfl⟩
theorem Blk.of_own {T : TypeId} {k M : Nat} {w : World} {v : Value} {n : Nat} {xs : List Value} (h : w.ownsRow M T k v n xs) : Blk T k M w v n xs := by
  refine ⟨h.1, ?_⟩
  rcases h.2 with h | ⟨g, c, cs, e, h1, h2, h3, _, h5, h6⟩
  · exact .inl h
  · exact .inr ⟨g, c, cs, e, h3, h1, h2, by omega, h6⟩
theorem Blk.mono {T : TypeId} {k M M' : Nat} {w : World} {v : Value} {n : Nat} {xs : List Value} (h : Blk T k M w v n xs) (hM : M' ≤ M) : Blk T k M' w v n xs := by
  refine ⟨h.1, ?_⟩
  rcases h.2 with h | ⟨g, c, cs, e, h3, h1, h2⟩
  · exact .inl h
  · exact .inr ⟨g, c, cs, e, h3, by omega, h2⟩
theorem Blk.later {T : TypeId} {k M : Nat} {w w' : World} {v : Value} {n : Nat} {xs : List Value} (h : Blk T k M w v n xs) (hb : Below w.heap.size w w') : Blk T k M w' v n xs := by
  refine ⟨h.1, ?_⟩
  rcases h.2 with h | ⟨g, c, cs, e, h3, h1, h2, h4⟩
  · exact .inl h
  · exact .inr ⟨g, c, cs, e, h3, h1, (hb.block g (lt_of_block h2)).trans h2, h4⟩
/-- Whatever it holds. -/
theorem Blk.sh {T : TypeId} {k M : Nat} {w w' : World} {v : Value} {n : Nat} {xs : List Value} (h : Blk T k M w v n xs) (hs : Sh w w') : ∃ ys, Blk T k M w' v n ys := by
  obtain ⟨h0, h | ⟨g, c, cs, e, h3, h1, h2, h4, h5⟩⟩ := h
  · exact ⟨xs, h0, .inl h⟩
  · obtain ⟨cs', e1, e2⟩ := hs g cs T h2
    refine ⟨cs'.toList.take (n * k), ?_, .inr ⟨g, c, cs', e, h3, h1, e1, by omega, rfl⟩⟩
    rw [List.length_take, Array.length_toList, e2]
    have := Nat.mul_le_mul_right k h3
    omega
theorem Blk.form {T : TypeId} {k M : Nat} {w : World} {v : Value} {n : Nat} {xs : List Value} (h : Blk T k M w v n xs) : ∃ p c, v = .slice p n c := by
  rcases h.2 with ⟨rfl, rfl⟩ | ⟨g, c, cs, rfl, _⟩
  · exact ⟨_, _, rfl⟩
  · exact ⟨_, _, rfl⟩
theorem Blk.cell {T : TypeId} {k M : Nat} {w : World} {g c n : Nat} {xs : List Value} (h : Blk T k M w (.slice (some ⟨g, 0, none⟩) n c) n xs) {o : Nat} {u : Value} (hu : xs[o]? = some u) : w.cell? ⟨g, o, none⟩ = some u := by
  obtain ⟨_, ⟨h, _⟩ | ⟨g', c', cs, e, _, _, hb, _, ht⟩⟩ := h
  · cases h
  · cases e
    rw [cell_in hb, ← Array.getElem?_toList]
    rw [← ht, List.getElem?_take] at hu
    split at hu
    · exact hu
    · cases hu
theorem Blk.at_ {T : TypeId} {k M : Nat} {w : World} {p : Option Addr} {c n : Nat} {xs : List Value} (h : Blk T k M w (.slice p n c) n xs) (hn : 0 < n) : ∃ g cs, p = some ⟨g, 0, none⟩ ∧ M ≤ g ∧ n ≤ c ∧ w.heap[g]? = some (.cells cs T (0, 0)) ∧ c * k ≤ cs.size ∧ cs.toList.take (n * k) = xs := by
  obtain ⟨_, ⟨_, h⟩ | ⟨g, c', cs, e, h1, h2, hb, h3, ht⟩⟩ := h
  · omega
  · cases e
    exact ⟨g, cs, rfl, h2, h1, hb, h3, ht⟩
theorem take_setR {cs : Array Value} {n : Nat} {vs : List Value} (h : n + vs.length ≤ cs.size) : (setR cs n vs).toList.take (n + vs.length) = cs.toList.take n ++ vs := by
  have hc : cs.toList.length = cs.size := by simp
  have hc2 : (cs.toList.take n).length = n := by rw [List.length_take, hc]; omega
  refine List.ext_getElem? fun i => ?_
  by_cases h1 : i < n
  · rw [List.getElem?_take_of_lt (by omega), List.getElem?_append_left (by rw [hc2]; exact h1), List.getElem?_take_of_lt h1, Array.getElem?_toList, Array.getElem?_toList, setR_out vs cs n i (by omega)]
  · rw [List.getElem?_append_right (by omega), hc2]
    by_cases h2 : i < n + vs.length
    · rw [List.getElem?_take_of_lt h2, Array.getElem?_toList]
      have hv : vs[i - n]? = some (vs[i - n]'(by omega)) := List.getElem?_eq_getElem (by omega)
      have := setR_in vs cs n (by omega) (i - n) _ hv
      rw [show n + (i - n) = i by omega] at this
      rw [this, hv]
    · rw [List.getElem?_eq_none (by rw [List.length_take]; omega), List.getElem?_eq_none (by omega)]
section
variable {P : Program}
theorem run_append_blk (w : World) (t ty : TypeId) (M : Nat) (e : TypeId) (i : TypeInfo) (z : Value) (size bytes : Nat) (ht : P.underlying t = some (.slice e)) (hi : P.info? e = some i) (hz : i.zero = some z)
    (hsize : i.size = size) (hby : i.bytes = bytes) (hzs : z.cells.size = size) (hsz : 0 < size)
    (v : Value) (n : Nat) (xs : List Value) (hB : Blk e size M w v n xs) (y : Value) (m : Nat) (news : List Value) (hm : 0 < m) (hy : SrcV w y m news) (hl : news.length = m * size) (h1 : ∀ u ∈ news, u.oneCell' = true)
    (h63 : n + m ≤ maxLen) (hbytes : (n + m) * bytes ≤ 140737488355328) (hM : M ≤ w.heap.size) :
    ∃ p c w', (Builtin.append_ #[t, t] ty #[v, y]).run P w = .ok (.slice p (n + m) c) w' ∧ Blk e size M w' (.slice p (n + m) c) (n + m) (xs ++ news) ∧ w.grownBy w' v.ownBlock ∧ Sh w w' := by
  obtain ⟨h0, ⟨rfl, rfl⟩ | ⟨g, c, cs, rfl, hnc, hMg, hb, hcs, htake⟩⟩ := hB
  · obtain ⟨p, cap, w', hr, h2, h3⟩ := run_append_any (P := P) w t ty M e i z size bytes ht hi hz hsize hby hzs hsz (.slice none 0 0) 0 xs ⟨h0, .inl ⟨rfl, rfl⟩⟩ y m news hy hl h1 h63 hbytes hM
    exact ⟨p, cap, w', hr, Blk.of_own h2, h3, Sh.of_none h3⟩
  · rcases hy with ⟨h, _⟩ | ⟨_, ad, c', rfl, hc⟩
    · omega
    have hcut : ∀ (j : Nat) (u : Value), xs[j]? = some u → w.cell? ⟨g, j, none⟩ = some u := fun j u hj => by
      rw [cell_in hb, ← Array.getElem?_toList]
      rw [← htake, List.getElem?_take] at hj
      split at hj
      · exact hj
      · cases hj
    by_cases hroom : n + m ≤ c
    · have hsum : n * size + m * size ≤ cs.size := by
        have := Nat.mul_le_mul_right size hroom
        rw [Nat.add_mul] at this
        omega
      have hr := run_append_room_cells (P := P) w t ty e i ht hi g 0 n c ad m c' news (by rw [hl, hsize]) hc h1 hroom (fun j hj => by rw [cell_in hb, Nat.zero_add, hsize, Array.getElem?_eq_getElem (by omega)]; rfl) (fun j hj => free_in hb)
      rw [Nat.zero_add, hsize] at hr
      refine ⟨_, c, _, hr, ⟨by rw [List.length_append, h0, hl, Nat.add_mul], .inr ⟨g, c, setR cs (n * size) news, rfl, hroom, hMg, heap_setCells news w cs (n * size) hb, by rw [setR_size]; exact hcs, ?_⟩⟩, ?_, Sh.setCells hb _ _⟩
      · rw [Nat.add_mul, ← hl, take_setR (by omega), htake]
      · have hu := upd_setCells (S := [g]) (a := w) (g := g) (.inl (by simp)) news w (n * size) (Upd.refl _ _)
        exact ⟨hu.os, hu.tape, hu.output, hu.size, fun k hk hne => hu.block k hk (fun hm => hne (by rw [List.mem_singleton.1 hm]; rfl))⟩
    · obtain ⟨v', w', hr, h2, h3⟩ := run_append_arg_grows (P := P) w t ty e i z size bytes ht hi hz hsize hby hzs hsz ⟨g, 0, none⟩ n c xs h0 (fun j u hj => by rw [addN, Nat.zero_add]; exact hcut j u hj) ad m c' news hl hc (by omega) h63 hbytes
      obtain ⟨p, c2, rfl⟩ := Blk.form (Blk.of_own h2)
      exact ⟨p, c2, w', hr, (Blk.of_own h2).mono hM, ⟨h3.os, h3.tape, h3.output, h3.size, fun k hk _ => h3.block k hk (by simp)⟩, Sh.of_none h3⟩
theorem wpList_append_blk {ops : Array Oper} {rest : List Oper} {o : Oper} {a : Act} {w : World} {Q : Exit → Act → World → Prop} (hgd : o.guard = none) (s x : Operand) (t : TypeId)
    (ho : o.op = .call { callee := .builtin .append, args := #[s, x], argTypes := #[t, t] })
    (e : TypeId) (i : TypeInfo) (z : Value) (size bytes : Nat) (ht : P.underlying t = some (.slice e)) (hi : P.info? e = some i) (hz : i.zero = some z)
    (hsize : i.size = size) (hby : i.bytes = bytes) (hzs : z.cells.size = size) (hsz : 0 < size)
    (M : Nat) (v : Value) (n : Nat) (xs : List Value) (hs : a.eval s = v) (hB : Blk e size M w v n xs) (y : Value) (m : Nat) (news : List Value) (hm : 0 < m) (hx : a.eval x = y) (hy : SrcV w y m news) (hl : news.length = m * size)
    (h1 : ∀ u ∈ news, u.oneCell' = true) (h63 : n + m ≤ 9223372036854775807) (hbytes : (n + m) * bytes ≤ 140737488355328) (hM : M ≤ w.heap.size)
    (h : ∀ p c w', Blk e size M w' (.slice p (n + m) c) (n + m) (xs ++ news) → w.grownBy w' v.ownBlock → Sh w w' → wpList P ops Q rest (a.put o.dst (.slice p (n + m) c)) w') :
    wpList P ops Q (o :: rest) a w := by
  refine wpList_plain hgd fun K hK => ?_
  obtain ⟨p, c, w', hr, h2, h3, h4⟩ := run_append_blk (P := P) w t o.type M e i z size bytes ht hi hz hsize hby hzs hsz v n xs hB y m news hm hy hl h1 (by unfold maxLen; omega) hbytes hM
  unfold Oper.wp execOp
  simp only [ho, resolve, invoke, builtin, Sem.run_bind, Sem.run_pure, Result.andThen_ok, List.map_toArray, List.map_cons, List.map_nil, hs, hx, hr]
  exact hK _ _ (h p c w' h2 h3 h4)
end
/-- A list of its own, loosely. -/
theorem Blk.of_new {α : Type} {enc : α → List Value} {k : Nat} (hk : ∀ x, (enc x).length = k) {T : TypeId} {M : Nat} {w : World} {v : Value} {l : List α} (h : rw.NewRw enc k T M w v l) : Blk T k M w v l.length (rw.flat enc l) := by
  refine ⟨rw.flat_len hk l, ?_⟩
  rcases h with ⟨rfl, rfl⟩ | ⟨g, c, cs, rfl, hc, hg, hb, hcs, hat⟩
  · exact .inl ⟨rfl, rfl⟩
  · refine .inr ⟨g, c, cs, rfl, hc, hg, hb, hcs, ?_⟩
    refine List.ext_getElem? fun i => ?_
    by_cases hi : i < l.length * k
    · rw [List.getElem?_take_of_lt hi, Array.getElem?_toList]
      have h2 : (rw.flat enc l)[i]? = some ((rw.flat enc l)[i]'(by rw [rw.flat_len hk]; exact hi)) := List.getElem?_eq_getElem _
      have := hat i _ h2
      rw [Nat.zero_add] at this
      rw [this, h2]
    · rw [List.getElem?_eq_none (by rw [List.length_take]; omega), List.getElem?_eq_none (by rw [rw.flat_len hk]; omega)]
end Go.Proofs.YtpfhhaonfbfheaaGreatDoor
/- slices.Insert of definitions, at any place: in place where there is room, else in a new row. Conditions: few definitions; what is put in lies in another block. -/
namespace Go.Proofs.YtpfhhaonfbfheaaGreatDoor.ky
open Go.RowKit ls gl va

theorem list_mid {xs vs : List Value} {a b n : Nat} (hl : xs.length = n) (ha : a ≤ n) (hb : vs.length = b) (j : Nat) :
    (xs.take a ++ vs ++ xs.drop a)[j]? = if j < a then xs[j]? else if j < a + b then vs[j - a]? else xs[j - b]? := by
  have h1 : (xs.take a).length = a := by rw [List.length_take]; omega
  rw [List.append_assoc]
  by_cases hj : j < a
  · rw [if_pos hj, List.getElem?_append_left (by omega), List.getElem?_take_of_lt hj]
  · rw [if_neg hj, List.getElem?_append_right (by omega), h1]
    by_cases hj2 : j < a + b
    · rw [if_pos hj2, List.getElem?_append_left (by omega)]
    · rw [if_neg hj2, List.getElem?_append_right (by omega), List.getElem?_drop]
      congr 1
      omega
theorem setR_at (vs : List Value) (cs : Array Value) (o j : Nat) (h : o + vs.length ≤ cs.size) : (setR cs o vs)[j]? = if o ≤ j ∧ j < o + vs.length then vs[j - o]? else cs[j]? := by
  by_cases hj : o ≤ j ∧ j < o + vs.length
  · rw [if_pos hj]
    have hv : vs[j - o]? = some (vs[j - o]'(by omega)) := List.getElem?_eq_getElem (by omega)
    have := setR_in vs cs o h (j - o) _ hv
    rw [show o + (j - o) = j by omega] at this
    rw [this, hv]
  · rw [if_neg hj, setR_out vs cs o j (by omega)]
theorem shift_take {cur : Array Value} {xs vs : List Value} {a b n : Nat} (hx : cur.toList.take n = xs) (ha : a ≤ n) (hb : vs.length = b) (hsz : n + b ≤ cur.size) :
    (setR (setR cur (a + b) (xs.drop a)) a vs).toList.take (n + b) = xs.take a ++ vs ++ xs.drop a := by
  have hc : cur.toList.length = cur.size := by simp
  have hl : xs.length = n := by rw [← hx, List.length_take, hc]; omega
  have hdl : (xs.drop a).length = n - a := by rw [List.length_drop, hl]
  refine List.ext_getElem? fun j => ?_
  rw [list_mid hl ha hb]
  by_cases hj : j < n + b
  · rw [List.getElem?_take_of_lt hj, Array.getElem?_toList, setR_at _ _ _ _ (by rw [setR_size]; omega), setR_at _ _ _ _ (by omega)]
    by_cases h1 : j < a
    · rw [if_neg (by omega), if_neg (by omega), if_pos h1, ← hx, List.getElem?_take_of_lt (by omega), Array.getElem?_toList]
    · rw [if_neg h1]
      by_cases h2 : j < a + b
      · rw [if_pos (by omega), if_pos h2]
      · rw [if_neg (by omega), if_pos (by omega), if_neg h2, List.getElem?_drop]
        congr 1
        omega
  · rw [List.getElem?_eq_none (by rw [List.length_take]; omega), if_neg (by omega), if_neg (by omega), List.getElem?_eq_none (by omega)]
theorem grow_take {row : Array Value} {xs vs : List Value} {a b n : Nat} (hx : row.toList.take a = xs.take a) (hl : xs.length = n) (ha : a ≤ n) (hb : vs.length = b) (hsz : n + b ≤ row.size) :
    (setR (setR row a vs) (a + b) (xs.drop a)).toList.take (n + b) = xs.take a ++ vs ++ xs.drop a := by
  have hdl : (xs.drop a).length = n - a := by rw [List.length_drop, hl]
  refine List.ext_getElem? fun j => ?_
  rw [list_mid hl ha hb]
  by_cases hj : j < n + b
  · rw [List.getElem?_take_of_lt hj, Array.getElem?_toList, setR_at _ _ _ _ (by rw [setR_size]; omega), setR_at _ _ _ _ (by omega)]
    by_cases h1 : j < a
    · rw [if_neg (by omega), if_neg (by omega), if_pos h1]
      have h2 := congrArg (fun l => l[j]?) hx
      simp only [List.getElem?_take_of_lt h1, Array.getElem?_toList] at h2
      exact h2
    · rw [if_neg h1]
      by_cases h2 : j < a + b
      · rw [if_neg (by omega), if_pos (by omega), if_pos h2]
      · rw [if_pos (by omega), if_neg h2, List.getElem?_drop]
        congr 1
        omega
  · rw [List.getElem?_eq_none (by rw [List.length_take]; omega), if_neg (by omega), if_neg (by omega), List.getElem?_eq_none (by omega)]
/-- In place. -/
theorem blk_shift {T : TypeId} {k M : Nat} {w : World} {g c n i : Nat} {xs vs : List Value} (h : Blk T k M w (.slice (some ⟨g, 0, none⟩) n c) n xs) (hi : i ≤ n) (hroom : n + 1 ≤ c) (hv : vs.length = k) :
    Blk T k M ((w.drew.setCells g ((i + 1) * k) (xs.drop (i * k))).setCells g (i * k) vs) (.slice (some ⟨g, 0, none⟩) (n + 1) c) (n + 1) (xs.take (i * k) ++ vs ++ xs.drop (i * k)) ∧ Upd [g] w ((w.drew.setCells g ((i + 1) * k) (xs.drop (i * k))).setCells g (i * k) vs) := by
  obtain ⟨h0, ⟨h, _⟩ | ⟨g', c', cs, e, _, hM, hb, hcs, ht⟩⟩ := h
  · cases h
  cases e
  have hik : i * k ≤ n * k := Nat.mul_le_mul_right k hi
  have hnk : (n + 1) * k ≤ c * k := Nat.mul_le_mul_right k hroom
  have e1 : (i + 1) * k = i * k + k := Nat.succ_mul i k
  have e2 : (n + 1) * k = n * k + k := Nat.succ_mul n k
  rw [e1]
  refine ⟨⟨?_, .inr ⟨g, c, _, rfl, hroom, hM, ls.heap_setCells vs _ _ (i * k) (ls.heap_setCells (xs.drop (i * k)) w.drew cs (i * k + k) hb), by rw [setR_size, setR_size]; exact hcs, ?_⟩⟩, ?_⟩
  · simp only [List.length_append, List.length_take, List.length_drop]
    omega
  · rw [e2]
    exact shift_take ht hik hv (by omega)
  · have hu := ls.upd_setCells (S := [g]) (a := w) (g := g) (.inl (by simp)) (xs.drop (i * k)) w.drew (i * k + k) (Upd.of_below (Below.refl _ w).drew _)
    exact ls.upd_setCells (S := [g]) (a := w) (g := g) (.inl (by simp)) vs _ (i * k) hu
/-- In a new block. -/
theorem blk_new {T : TypeId} {k : Nat} {w : World} {n i G : Nat} {xs vs : List Value} {row : Array Value} (hx : row.toList.take (i * k) = xs.take (i * k)) (hl : xs.length = n * k) (hi : i ≤ n) (hv : vs.length = k) (hG : n + 1 ≤ G) (hr : G * k ≤ row.size) :
    Blk T k w.heap.size ((((w.alloc (.cells row T)).drew.setCells w.heap.size (i * k) vs).drew).setCells w.heap.size ((i + 1) * k) (xs.drop (i * k))) (.slice (some ⟨w.heap.size, 0, none⟩) (n + 1) G) (n + 1) (xs.take (i * k) ++ vs ++ xs.drop (i * k)) ∧ Below w.heap.size w ((((w.alloc (.cells row T)).drew.setCells w.heap.size (i * k) vs).drew).setCells w.heap.size ((i + 1) * k) (xs.drop (i * k))) := by
  have hik : i * k ≤ n * k := Nat.mul_le_mul_right k hi
  have hnk : (n + 1) * k ≤ G * k := Nat.mul_le_mul_right k hG
  have e1 : (i + 1) * k = i * k + k := Nat.succ_mul i k
  have e2 : (n + 1) * k = n * k + k := Nat.succ_mul n k
  have hb : (w.alloc (.cells row T)).drew.heap[w.heap.size]? = some (.cells row T (0, 0)) := heap_alloc_new w _
  rw [e1]
  refine ⟨⟨?_, .inr ⟨w.heap.size, G, _, rfl, hG, Nat.le_refl _, ls.heap_setCells (xs.drop (i * k)) _ _ (i * k + k) (ls.heap_setCells vs (w.alloc (.cells row T)).drew row (i * k) hb), by rw [setR_size, setR_size]; exact hr, ?_⟩⟩, ?_⟩
  · simp only [List.length_append, List.length_take, List.length_drop]
    omega
  · rw [e2]
    exact grow_take hx hl hik hv (by omega)
  · have h1 := ls.below_setCells (B := w.heap.size) (g := w.heap.size) (w0 := w) (Nat.le_refl _) vs (w.alloc (.cells row T)).drew (i * k) ((Below.refl _ w).alloc (Nat.le_refl _) _).drew
    exact ls.below_setCells (Nat.le_refl _) (xs.drop (i * k)) _ (i * k + k) h1.drew
end Go.Proofs.YtpfhhaonfbfheaaGreatDoor.ky
namespace Go.Proofs.YtpfhhaonfbfheaaGreatDoor.ky
open Go.ChangeShapes Go.WideShapes Go.ChangeAt Go.RowKit Go.Lib gl va ls

theorem run_copy_cells_k {P : Program} (w : World) (dT sT ty elem : TypeId) (b o dLen dCap : Nat) (a : Addr) (sLen sCap : Nat) (cs : List Value) (size n : Nat)
    (hu : P.underlying dT = some (.slice elem)) (hs : (P.info? elem).map (·.size) = some size) (hmin : Nat.min sLen dLen = n) (hn : cs.length = n * size)
    (hsrc : ∀ j v, cs[j]? = some v → w.cell? (a.add j) = some v) (hc : ∀ j, j < cs.length → (w.cell? ⟨b, o + j, none⟩).isSome = true) (hf : ∀ j, j < cs.length → w.frozen? ⟨b, o + j, none⟩ = false) (h1 : ∀ v ∈ cs, v.oneCell' = true) :
    (Builtin.copy_ #[dT, sT] ty #[.slice (some ⟨b, o, none⟩) dLen dCap, .slice (some a) sLen sCap]).run P w = .ok (goInt n) (w.setCells b o cs) := by
  have hl := run_loadCells_list (P := P) w a cs hsrc
  have hst := run_storeCells_cells (P := P) b o cs 0 w (by simpa using hc) (by simpa using hf) h1
  cases hq : P.info? elem with
  | none => simp [hq] at hs
  | some i =>
    have hi : i.size = size := by simpa [hq] using hs
    simp only [Nat.add_zero] at hst
    simp [Builtin.copy_, run_underlying hu, Builtin.lenOf, Builtin.firstCells, sizeOf, typeInfo, hq, hi, hmin, ← hn, hl, hst]
theorem infoKz : (Tryz.prog.info? 62).map (·.size) = some 6 := by kernel_rfl
theorem infoK : (Tryz.prog.info? 62).map (fun i => (i.zero, i.size, i.bytes)) = some (some (.agg #[.string .empty, .int .i64 0, .string .empty, .int .i64 0, .int .i64 0, .string .empty]), 6, 72) := by kernel_rfl
theorem sizeK (w : World) : (Go.sizeOf 62).run Tryz.prog w = .ok 6 w := by
  obtain ⟨i, hi, he⟩ := Option.map_eq_some_iff.1 infoKz
  simp [Go.sizeOf, typeInfo, hi, he]

set_option maxHeartbeats 4000000 in
set_option maxRecDepth 100000 in
/-- There is room: in place. -/
theorem insert_shift (g n c i vb m : Nat) (cs vs : List Value) (cur : Array Value) (w : World) (hi : i < n) (hm : 0 < m) (hroom : n + m ≤ c) (hnm : n + m ≤ 100000) (hvb : vb ≠ g)
    (hcl : cs.length = n * 6) (hvl : vs.length = m * 6)
    (hg : w.heap[g]? = some (.cells cur 62 (0, 0))) (hcur : c * 6 ≤ cur.size) (hcs : ∀ j v, cs[j]? = some v → w.cell? ⟨g, j, none⟩ = some v)
    (hv : w.heap[vb]? = some (.cells vs.toArray 62 (0, 0))) (h1c : ∀ v ∈ cs, v.oneCell' = true) (h1v : ∀ v ∈ vs, v.oneCell' = true) :
    Calls Tryz.prog 73 #[.slice (some ⟨g, 0, none⟩) n c, .int .i64 i, .slice (some ⟨vb, 0, none⟩) m m] w fun e w' =>
      e = .returned (.slice (some ⟨g, 0, none⟩) (n + m) c) ∧ w' = (w.drew.setCells g ((i + m) * 6) (cs.drop (i * 6))).setCells g (i * 6) vs := by
  have hsz := infoKz
  have mixed : Tryz.prog.follows .mixedOrders = true := by kernel_rfl
  have hz1 : ¬ ((m : Int) = 0) := by omega
  have hz2 : ¬ ((i : Int) = (n : Int)) := by omega
  have hsp : ∀ j, j < (n + m) * 6 → (w.cell? ⟨g, j, none⟩).isSome = true := fun j hj => by rw [cell_in hg, Array.getElem?_eq_getElem (by omega)]; rfl
  have hfz : ∀ j, w.frozen? ⟨g, j, none⟩ = false := fun j => free_in hg
  have hvs : ∀ j v, vs[j]? = some v → w.cell? ⟨vb, j, none⟩ = some v := fun j v hj => by rw [cell_in hv]; simpa using hj
  have hsa : w.shape? vb = some (62, vs.toArray.size) := by unfold World.shape?; rw [hv]
  have hsb : w.shape? g = some (62, cur.size) := by unfold World.shape?; rw [hg]
  have hov : ∀ lb cb, (callFunc 97 #[.slice (some ⟨vb, 0, none⟩) m m, .slice (some ⟨g, (i + m) * 6, none⟩) lb cb]).run Tryz.prog w = .ok (.value (.bool false)) w := fun lb cb => by
    rw [run_callFunc_extern Tryz.func97 (by kernel_rfl) (by kernel_rfl) (by kernel_rfl) (e := Extern.SlicesOverlaps.overlaps #[27, 27] #[4]) (by kernel_rfl),
      Lib.run_overlaps_apart w 27 4 62 Tryz.underlying27 6 sizeK ⟨vb, 0, none⟩ ⟨g, (i + m) * 6, none⟩ m m lb cb hvb _ _ _ _ hsa hsb (by omega) (free_in hv) (free_in hv)]
    rfl
  have hdl : (cs.drop (i * 6)).length = (n - i) * 6 := by rw [List.length_drop, hcl]; omega
  have hw1 : IntKind.i64.wrap ((i : Int) + (m : Int)) = (i : Int) + (m : Int) := by rw [IntKind.wrap_i64]; omega
  have hb1 : (0 : Int) ≤ (i : Int) + (m : Int) := by omega
  have hin : i ≤ n := by omega
  have htn : ((i : Int) + (m : Int)).toNat = i + m := by omega
  have hb2 : ¬ (c = i + m) := by omega
  have hb3 : (i : Int) ≤ (n : Int) + (m : Int) := by omega
  have hb4 : ¬ (c = i) := by omega
  have hcp1 : ∀ ty dc sc, (Builtin.copy_ #[27, 27] ty #[.slice (some ⟨g, (i + m) * 6, none⟩) (n + m - (i + m)) dc, .slice (some ⟨g, i * 6, none⟩) (n + m - i) sc]).run Tryz.prog w.drew = .ok (goInt (n - i : Nat)) (w.drew.setCells g ((i + m) * 6) (cs.drop (i * 6))) := fun ty dc sc =>
    run_copy_cells_k (P := Tryz.prog) w.drew _ _ ty 62 g ((i + m) * 6) (n + m - (i + m)) dc ⟨g, i * 6, none⟩ (n + m - i) sc (cs.drop (i * 6)) 6 (n - i) Tryz.underlying27 hsz (by simp only [Nat.min_def]; split <;> omega) hdl
      (fun j v hj => by rw [Addr.add_lit]; exact hcs (i * 6 + j) v (by rwa [List.getElem?_drop] at hj))
      (fun j hj => hsp _ (by omega)) (fun j hj => hfz _) (fun v hv => h1c v (List.mem_of_mem_drop hv))
  obtain ⟨W1, hW1⟩ : ∃ W1, W1 = w.drew.setCells g ((i + m) * 6) (cs.drop (i * 6)) := ⟨_, rfl⟩
  have hsp1 : ∀ k, k < (n + m) * 6 → (W1.cell? ⟨g, k, none⟩).isSome = true := fun k hk => by
    rw [hW1]
    exact isSome_setCells g (cs.drop (i * 6)) ((i + m) * 6) w.drew (fun j hj => hsp ((i + m) * 6 + j) (by rw [hdl] at hj; omega)) k (hsp k hk)
  have hcp2 : ∀ (W : World), (∀ x, W.cell? x = W1.cell? x) → (∀ x, W.frozen? x = W1.frozen? x) → ∀ ty dc, (Builtin.copy_ #[27, 27] ty #[.slice (some ⟨g, i * 6, none⟩) (n + m - i) dc, .slice (some ⟨vb, 0, none⟩) m m]).run Tryz.prog W = .ok (goInt m) (W.setCells g (i * 6) vs) := fun W hWc hWf ty dc =>
    run_copy_cells_k (P := Tryz.prog) W _ _ ty 62 g (i * 6) (n + m - i) dc ⟨vb, 0, none⟩ m m vs 6 m Tryz.underlying27 hsz (by simp only [Nat.min_def]; split <;> omega) hvl
      (fun j v hj => by
        rw [Addr.add_lit, Nat.zero_add, hWc, hW1, World.cell?_setCells_out g _ _ _ _ (fun h _ => absurd h hvb)]
        exact hvs j v hj)
      (fun j hj => by rw [hWc]; exact hsp1 _ (by omega)) (fun j hj => by rw [hWf, hW1, World.frozen?_setCells]; exact hfz _) h1v
  rw [← hW1] at hcp1
  clear hg hv hsa hsb hcur hcl hvl hdl hsp hfz hvs hcs h1c h1v hsp1
  go_enter Tryz.func73, Tryz.ntmps73
  go_wp2_with (simp only [hov])
  go_region_law_o (refine step_copy_runI rfl _ _ 27 27 rfl _ _ (by simp [Act.eval, Act.put]) (by simp [Act.eval, Act.put]) (hcp1 _ _ _) ?_)
  go_wp2_with (at_builtin; refine wpList_copy_runI _ rfl _ _ 27 27 rfl _ _ rfl rfl (hcp2 _ (fun _ => rfl) (fun _ => rfl) _ _) ?_)
  go_ret
  first | exact ⟨rfl, rfl⟩ | exact ⟨rfl, by rw [hW1]⟩
set_option maxHeartbeats 4000000 in
set_option maxRecDepth 100000 in
/-- There is no room: a new row. -/
theorem insert_grow (g n c i vb m : Nat) (cs vs : List Value) (cur : Array Value) (w : World) (hi : i < n) (hm : 0 < m) (hnc : n ≤ c) (hroom : c < n + m) (hbig : n + m ≤ 100000)
    (hcl : cs.length = n * 6) (hvl : vs.length = m * 6)
    (hg : w.heap[g]? = some (.cells cur 62 (0, 0))) (hcs : ∀ j v, cs[j]? = some v → w.cell? ⟨g, j, none⟩ = some v)
    (hv : w.heap[vb]? = some (.cells vs.toArray 62 (0, 0))) (h1c : ∀ v ∈ cs, v.oneCell' = true) (h1v : ∀ v ∈ vs, v.oneCell' = true) :
    Calls Tryz.prog 73 #[.slice (some ⟨g, 0, none⟩) n c, .int .i64 i, .slice (some ⟨vb, 0, none⟩) m m] w fun e w' =>
      ∃ (G : Nat) (ROW : Array Value), n + m ≤ G ∧ G * 6 ≤ ROW.size ∧ ROW.toList.take (i * 6) = cs.take (i * 6) ∧ e = .returned (.slice (some ⟨w.heap.size, 0, none⟩) (n + m) G) ∧
      w' = (((w.alloc (.cells ROW 62)).drew.setCells w.heap.size (i * 6) vs).drew).setCells w.heap.size ((i + m) * 6) (cs.drop (i * 6)) := by
  obtain ⟨i0, hi0, hz0, hzs, hzb⟩ := info_parts infoK
  have hz1 : ¬ ((m : Int) = 0) := by omega
  have hz2 : ¬ ((i : Int) = (n : Int)) := by omega
  have hz3 : (c : Int) < (n : Int) + (m : Int) := by omega
  have hsz := infoKz
  have mixed : Tryz.prog.follows .mixedOrders = true := by kernel_rfl
  have hbw : g < w.heap.size := lt_of_block hg
  have hvw : vb < w.heap.size := lt_of_block hv
  have hvs : ∀ j v, vs[j]? = some v → w.cell? ⟨vb, j, none⟩ = some v := fun j v hj => by rw [cell_in hv]; simpa using hj
  have hkk : (n : Int) + (m : Int) - (i : Int) = ((n + m - i : Nat) : Int) := by omega
  have hik : i + (n + m - i) = n + m := by omega
  have hold : (Builtin.firstCells i0.size i (.slice (some ⟨g, 0, none⟩) i c)).run Tryz.prog w.drew = .ok (cs.take (i * 6)).toArray w.drew := by
    rw [hzs]
    exact run_firstCells_some w.drew 6 i ⟨g, 0, none⟩ i c (cs.take (i * 6)) (by rw [List.length_take]; omega) (fun j v hj => by
      rw [Addr.add_lit, Nat.zero_add]
      rw [List.getElem?_take] at hj
      split at hj
      · exact hcs j v hj
      · cases hj)
  have hrz : ∀ ty, (Builtin.append_ #[27, 3] ty #[.slice (some ⟨g, 0, none⟩) i c, .int .i64 ((n : Int) + (m : Int) - (i : Int))]).run Tryz.prog w =
      .ok (.slice (some ⟨w.heap.size, 0, none⟩) (n + m) (grownCap w (n + m) c 62)) (w.drew.alloc (.cells ((cs.take (i * 6)).toArray ++ Builtin.zeroCells (Value.cells (.agg #[.string .empty, .int .i64 0, .string .empty, .int .i64 0, .int .i64 0, .string .empty])) (n + m - i) ++ Builtin.zeroCells (Value.cells (.agg #[.string .empty, .int .i64 0, .string .empty, .int .i64 0, .int .i64 0, .string .empty])) (grownCap w (n + m) c 62 - (n + m))) 62)) := fun ty => by
    have h := Lib.run_append_grow_zeros (P := Tryz.prog) w 27 3 ty 62 i0 _ .i64 .i64 Tryz.underlying27 Tryz.underlying3 hi0 hz0 (some ⟨g, 0, none⟩) i c (cs.take (i * 6)) hold (n + m - i) (by omega) (by omega) (by omega) (by omega) (by rw [hzb]; omega) (by rw [hzb, hik]; exact growslice_fits hroom (by omega))
    rw [hik] at h
    rw [hkk]
    exact h
  obtain ⟨G, hG⟩ : ∃ G, G = grownCap w (n + m) c 62 := ⟨_, rfl⟩
  obtain ⟨ROW, hROW⟩ : ∃ ROW : Array Value, ROW = (cs.take (i * 6)).toArray ++ Builtin.zeroCells (Value.cells (.agg #[.string .empty, .int .i64 0, .string .empty, .int .i64 0, .int .i64 0, .string .empty])) (n + m - i) ++ Builtin.zeroCells (Value.cells (.agg #[.string .empty, .int .i64 0, .string .empty, .int .i64 0, .int .i64 0, .string .empty])) (G - (n + m)) := ⟨_, rfl⟩
  rw [← hG] at hrz
  rw [← hROW] at hrz
  have hGn : n + m ≤ G := by rw [hG]; exact grownCap_ge w _ _ _
  have htl : (cs.take (i * 6)).length = i * 6 := by rw [List.length_take]; omega
  have hRs : ROW.size = G * 6 := by
    rw [hROW]
    simp [Builtin.zeroCells, Value.cells]
    omega
  have hRl : G * 6 ≤ ROW.size := by omega
  have hRt : ROW.toList.take (i * 6) = cs.take (i * 6) := by
    rw [hROW, Array.toList_append, Array.toList_append, List.append_assoc, List.take_append_of_le_length (by rw [List.toList_toArray, htl]; exact Nat.le_refl _), List.toList_toArray, List.take_of_length_le (by rw [htl]; exact Nat.le_refl _)]
  obtain ⟨W1, hW1⟩ : ∃ W1, W1 = w.drew.alloc (.cells ROW 62) := ⟨_, rfl⟩
  rw [← hW1] at hrz
  have hN : ∀ j, j < (n + m) * 6 → (W1.cell? ⟨w.heap.size, j, none⟩).isSome = true := fun j hj => by
    rw [hW1, World.cell?_alloc_at (w := w.drew) ROW _ w.heap.size j rfl, Array.getElem?_eq_getElem (by omega)]; rfl
  have hNf : ∀ j, W1.frozen? ⟨w.heap.size, j, none⟩ = false := fun j => by rw [hW1]; exact World.frozen?_alloc_at (w := w.drew) ROW _ w.heap.size j rfl
  have hOb : ∀ j v, w.cell? ⟨g, j, none⟩ = some v → W1.cell? ⟨g, j, none⟩ = some v := fun j v h => by rw [hW1, World.cell?_alloc_past (w := w.drew) _ g j hbw]; exact h
  have hOv : ∀ j v, w.cell? ⟨vb, j, none⟩ = some v → W1.cell? ⟨vb, j, none⟩ = some v := fun j v h => by rw [hW1, World.cell?_alloc_past (w := w.drew) _ vb j hvw]; exact h
  have hcpA : ∀ (W : World), (∀ x, W.cell? x = W1.cell? x) → (∀ x, W.frozen? x = W1.frozen? x) → ∀ ty dc, (Builtin.copy_ #[27, 27] ty #[.slice (some ⟨w.heap.size, i * 6, none⟩) (n + m - i) dc, .slice (some ⟨vb, 0, none⟩) m m]).run Tryz.prog W = .ok (goInt m) (W.setCells w.heap.size (i * 6) vs) := fun W hWc hWf ty dc =>
    run_copy_cells_k (P := Tryz.prog) W _ _ ty 62 w.heap.size (i * 6) (n + m - i) dc ⟨vb, 0, none⟩ m m vs 6 m Tryz.underlying27 hsz (by simp only [Nat.min_def]; split <;> omega) hvl
      (fun j v hj => by rw [Addr.add_lit, Nat.zero_add, hWc]; exact hOv _ v (hvs j v hj))
      (fun j hj => by rw [hWc]; exact hN _ (by omega)) (fun j hj => by rw [hWf]; exact hNf _) h1v
  have hG63 : G ≤ 9223372036854775807 := by
    have := grownCap_le_maxLen w (n + m) c 62 (by unfold maxLen; omega)
    rw [← hG] at this
    unfold maxLen at this
    omega
  have hGi : ¬ (G = i) := by omega
  have hGim : ¬ (G = i + m) := by omega
  have hci : ¬ (c = i) := by omega
  have hbN : g ≠ w.heap.size := by omega
  have hdl : (cs.drop (i * 6)).length = (n - i) * 6 := by rw [List.length_drop, hcl]; omega
  have hcpB : ∀ (W : World), (∀ x, W.cell? x = (W1.setCells w.heap.size (i * 6) vs).cell? x) → (∀ x, W.frozen? x = (W1.setCells w.heap.size (i * 6) vs).frozen? x) → ∀ ty dc sc, (Builtin.copy_ #[27, 27] ty #[.slice (some ⟨w.heap.size, (i + m) * 6, none⟩) (n + m - (i + m)) dc, .slice (some ⟨g, i * 6, none⟩) (n - i) sc]).run Tryz.prog W = .ok (goInt (n - i : Nat)) (W.setCells w.heap.size ((i + m) * 6) (cs.drop (i * 6))) := fun W hWc hWf ty dc sc =>
    run_copy_cells_k (P := Tryz.prog) W _ _ ty 62 w.heap.size ((i + m) * 6) (n + m - (i + m)) dc ⟨g, i * 6, none⟩ (n - i) sc (cs.drop (i * 6)) 6 (n - i) Tryz.underlying27 hsz (by simp only [Nat.min_def]; split <;> omega) hdl
      (fun j v hj => by
        rw [Addr.add_lit, hWc, World.cell?_setCells_out _ _ _ _ _ (fun h _ => absurd h hbN)]
        exact hOb _ v (hcs (i * 6 + j) v (by rwa [List.getElem?_drop] at hj)))
      (fun j hj => by rw [hWc]; exact isSome_setCells _ _ _ _ (fun t ht => hN _ (by omega)) _ (hN _ (by omega)))
      (fun j hj => by rw [hWf, World.frozen?_setCells]; exact hNf _) (fun v hv => h1c v (List.mem_of_mem_drop hv))
  subst hW1
  have hE1 : ∀ x, ((w.alloc (.cells ROW 62)).drew).cell? x = (w.drew.alloc (.cells ROW 62)).cell? x := fun x => rfl
  have hE2 : ∀ x, ((w.alloc (.cells ROW 62)).drew).frozen? x = (w.drew.alloc (.cells ROW 62)).frozen? x := fun x => rfl
  have hF1 : ∀ x, (((w.alloc (.cells ROW 62)).drew.setCells w.heap.size (i * 6) vs).drew).cell? x = ((w.drew.alloc (.cells ROW 62)).setCells w.heap.size (i * 6) vs).cell? x := fun x => rfl
  have hF2 : ∀ x, (((w.alloc (.cells ROW 62)).drew.setCells w.heap.size (i * 6) vs).drew).frozen? x = ((w.drew.alloc (.cells ROW 62)).setCells w.heap.size (i * 6) vs).frozen? x := fun x => rfl
  have hw1 : IntKind.i64.wrap ((i : Int) + (m : Int)) = (i : Int) + (m : Int) := by rw [IntKind.wrap_i64]; omega
  have hb1 : (0 : Int) ≤ (i : Int) + (m : Int) := by omega
  have hin : i ≤ n := by omega
  have htn : ((i : Int) + (m : Int)).toNat = i + m := by omega
  have hb3 : (i : Int) ≤ (n : Int) := by omega
  have HR := Lib.hid hRl
  have HT := Lib.hid hRt
  clear hkk hik hold hROW hG hRl hRt hRs htl hg hv hcl hvl hcs hvs h1c h1v hdl hN hNf hOb hOv
  go_enter Tryz.func73, Tryz.ntmps73
  go_wp2_with (first
    | (at_builtin; refine Lib.wpList_append_run _ rfl _ _ _ _ rfl _ _ rfl rfl _ _ (hrz _) ?_)
    | (at_builtin; refine wpList_copy_runI _ rfl _ _ 27 27 rfl _ _ rfl rfl (hcpA _ hE1 hE2 _ _) ?_)
    | (at_builtin; refine wpList_copy_runI _ rfl _ _ 27 27 rfl _ _ rfl rfl (hcpB _ (fun _ => rfl) (fun _ => rfl) _ _ _) ?_))
  go_region_law_o (refine step_copy_runI rfl _ _ 27 27 rfl (.slice (some ⟨w.heap.size, (i + m) * 6, none⟩) (n + m - (i + m)) (G - (i + m))) (.slice (some ⟨g, i * 6, none⟩) (n - i) (c - i)) (by simp [Act.eval, Act.put]) (by simp [Act.eval, Act.put]) (hcpB _ hF1 hF2 3 (G - (i + m)) (c - i)) ?_)
  go_wp2
  go_ret
  exact ⟨G, ROW, hGn, HR.out, HT.out, rfl, rfl⟩
end Go.Proofs.YtpfhhaonfbfheaaGreatDoor.ky
/- slices.Insert of one definition into a set's row, at any place. Conditions: at most 64 definitions; the new one lies in another block. -/
namespace Go.Proofs.YtpfhhaonfbfheaaGreatDoor.ky
open Go.ChangeShapes Go.WideShapes Go.ChangeAt Go.RowKit gl va ls

theorem flat_take (S : List Ky) (k : Nat) : (rw.flat kyC S).take (k * 6) = rw.flat kyC (S.take k) := by
  rcases Nat.lt_or_ge k S.length with h | h
  · conv => lhs; rw [← List.take_append_drop k S, rw.flat_append]
    rw [List.take_append_of_le_length (by rw [rw.flat_len kyC_len, List.length_take]; omega), List.take_of_length_le (by rw [rw.flat_len kyC_len, List.length_take]; omega)]
  · rw [List.take_of_length_le (by rw [rw.flat_len kyC_len]; omega), List.take_of_length_le h]
theorem flat_drop (S : List Ky) (k : Nat) : (rw.flat kyC S).drop (k * 6) = rw.flat kyC (S.drop k) := by
  rcases Nat.lt_or_ge k S.length with h | h
  · conv => lhs; rw [← List.take_append_drop k S, rw.flat_append]
    rw [List.drop_append_of_le_length (by rw [rw.flat_len kyC_len, List.length_take]; omega), List.drop_of_length_le (by rw [rw.flat_len kyC_len, List.length_take]; omega), List.nil_append]
  · rw [List.drop_of_length_le (by rw [rw.flat_len kyC_len]; omega), List.drop_of_length_le h]; rfl
theorem flat_ins (S : List Ky) (k : Nat) (x : Ky) : (rw.flat kyC S).take (k * 6) ++ kyC x ++ (rw.flat kyC S).drop (k * 6) = rw.flat kyC (S.take k ++ x :: S.drop k) := by
  rw [flat_take, flat_drop, rw.flat_append]
  simp [rw.flat]
theorem blk_cell {M : Nat} {w : World} {g c n : Nat} {xs : List Value} (h : Blk 62 6 M w (.slice (some ⟨g, 0, none⟩) n c) n xs) : ∀ j v, xs[j]? = some v → w.cell? ⟨g, j, none⟩ = some v := fun _ _ hj => h.cell hj
theorem blk_rw {M : Nat} {w : World} {v : Value} {S : List Ky} (h : Blk 62 6 M w v S.length (rw.flat kyC S)) : rw.Rw kyC 6 w v S := by
  have hh := h
  rcases h.2 with ⟨rfl, h0⟩ | ⟨g, c, cs, rfl, hnc, _, hb, _, _⟩
  · obtain rfl := List.eq_nil_of_length_eq_zero h0
    exact ⟨none, 0, rfl, Nat.le_refl _, .inl rfl⟩
  · refine ⟨_, c, rfl, hnc, .inr ⟨g, 0, rfl, lt_of_block hb, fun j x hx i u hu => ?_⟩⟩
    rw [Nat.zero_add]
    exact hh.cell (rw.flat_at kyC_len S j x i u hx hu)

set_option maxHeartbeats 4000000 in
set_option maxRecDepth 100000 in
/-- At the end: an append. -/
theorem insert_end (M : Nat) (v : Value) (n : Nat) (xs : List Value) (g : Nat) (x : Ky) (hn : n ≤ 64) (w : World) (hM : M ≤ w.heap.size) (hB : Blk 62 6 M w v n xs) (hg : w.heap[g]? = some (.cells (kyC x).toArray 62 (0, 0))) :
    Calls Tryz.prog 73 #[v, .int .i64 (n : Nat), .slice (some ⟨g, 0, none⟩) 1 1] w fun e w' => ∃ v', e = .returned v' ∧ Blk 62 6 M w' v' (n + 1) (xs ++ kyC x) ∧ w.grownBy w' v.ownBlock := by
  obtain ⟨i0, si, sz0, sz1, sz2⟩ := info_parts infoK
  obtain ⟨p, c, rfl⟩ := hB.form
  have hnc : n ≤ c := by
    rcases hB.2 with ⟨h, h0⟩ | ⟨g, c', cs, h, h1, _⟩
    · omega
    · cases h; exact h1
  have HB := Lib.hid hB
  have Hsrc : Hid (SrcV w (.slice (some ⟨g, 0, none⟩) 1 1) 1 (kyC x)) := Lib.hid (.inr ⟨by decide, _, _, rfl, fun j u hj => by
    rw [addN, cell_in hg, Nat.zero_add, List.getElem?_toArray]
    exact hj⟩)
  have Hr1 := Lib.hid (kyC_one x)
  have q0 : ((1 : Int) == 0) = false := by decide
  have q1 : ((n : Int) == (n : Int)) = true := by simp
  have q2 : (0 : Int) ≤ (n : Int) := by omega
  have q3 : (n : Int) ≤ (n : Int) := by omega
  clear hB hg
  by_cases hcn : c = n
  case' pos => subst hcn
  all_goals
    go_enter Tryz.func73, Tryz.ntmps73
    focus
      go_wp2_with (at_builtin; go_must (refine wpList_append_blk rfl _ _ 27 rfl 62 i0 _ 6 72 Tryz.underlying27 si sz0 sz1 sz2 rfl (by decide) M _ _ _ (by rfl) HB.out _ 1 _ (by decide) (by rfl) Hsrc.out (by rfl) Hr1.out (by omega) (by omega) (by omega) ?_))
    intro p' cap w5 hown hgrow hsh
    go_wp2_with fail
    go_ret
    exact ⟨_, rfl, hown, hgrow⟩
theorem insert_any (M : Nat) (v : Value) (S : List Ky) (k : Nat) (hk : k ≤ S.length) (x : Ky) (g : Nat) (hn : S.length ≤ 64) (w : World) (hM : M ≤ w.heap.size) (hB : Blk 62 6 M w v S.length (rw.flat kyC S)) (hg : w.heap[g]? = some (.cells (kyC x).toArray 62 (0, 0))) (hne : ∀ q, v.ownBlock = some q → g ≠ q) :
    Calls Tryz.prog 73 #[v, .int .i64 (k : Nat), .slice (some ⟨g, 0, none⟩) 1 1] w fun e w' => ∃ v', e = .returned v' ∧ Blk 62 6 M w' v' (S.length + 1) (rw.flat kyC (S.take k ++ x :: S.drop k)) ∧ w.grownBy w' v.ownBlock := by
  rcases Nat.lt_or_ge k S.length with hlt | hge
  · have hB' := hB
    rcases hB.2 with ⟨rfl, h0⟩ | ⟨q, c, cur, rfl, hnc, hq, hb, hcs, ht⟩
    · omega
    have hgq : g ≠ q := hne q rfl
    have hfl := rw.flat_len kyC_len S
    have h1c := rw.flat_one kyC_one S
    by_cases hroom : S.length + 1 ≤ c
    · refine (insert_shift q S.length c k g 1 (rw.flat kyC S) (kyC x) cur w hlt (by decide) hroom (by omega) hgq hfl rfl hb hcs (blk_cell hB') hg h1c (kyC_one x)).mono fun e w' h => ?_
      obtain ⟨rfl, rfl⟩ := h
      obtain ⟨h1, h2⟩ := blk_shift (vs := kyC x) hB' (Nat.le_of_lt hlt) hroom rfl
      rw [flat_ins] at h1
      exact ⟨_, rfl, h1, h2.os, h2.tape, h2.output, h2.size, fun j hj hne => h2.block j hj (fun hm => hne (by rw [List.mem_singleton.1 hm]; rfl))⟩
    · refine (insert_grow q S.length c k g 1 (rw.flat kyC S) (kyC x) cur w hlt (by decide) hnc (by omega) (by omega) hfl rfl hb (blk_cell hB') hg h1c (kyC_one x)).mono fun e w' h => ?_
      obtain ⟨G, ROW, hG, hR, hT, rfl, rfl⟩ := h
      obtain ⟨h1, h2⟩ := blk_new (T := 62) (w := w) hT hfl (Nat.le_of_lt hlt) (show (kyC x).length = 6 from rfl) hG hR
      rw [flat_ins] at h1
      exact ⟨_, rfl, h1.mono hM, h2.os, h2.tape, h2.output, h2.size, fun j hj _ => h2.block j hj⟩
  · obtain rfl : k = S.length := by omega
    refine (insert_end M v S.length _ g x hn w hM hB hg).mono fun e w' h => ?_
    obtain ⟨v', rfl, h1, h2⟩ := h
    refine ⟨v', rfl, ?_, h2⟩
    rw [List.take_of_length_le (Nat.le_refl _), List.drop_of_length_le (Nat.le_refl _)]
    rw [rw.flat_snoc]
    exact h1
end Go.Proofs.YtpfhhaonfbfheaaGreatDoor.ky
/- Package key: where a name stands among definitions that ascend. Conditions: at most 4294967295 definitions. -/
namespace Go.Proofs.YtpfhhaonfbfheaaGreatDoor.ky
open Go.ChangeShapes Go.WideShapes Go.ChangeAt Go.RowKit gl va ls

theorem then_bel {w w' w'' : World} (h : Below w.heap.size w w') (h2 : Below w'.heap.size w' w'') : Below w.heap.size w w'' := h.trans (h2.mono h.size)
theorem B_list (l : List UInt8) : (B l).data.toList = l := by simp
theorem ky_cells {w : World} {b o n c : Nat} {R : List Ky} (h : rw.Rw kyC 6 w (.slice (some ⟨b, o, none⟩) n c) R) {j : Nat} {x : Ky} (hx : R[j]? = some x) :
    w.cell? ⟨b, o + j * 6, none⟩ = some (.string (B x.name)) ∧ w.cell? ⟨b, o + j * 6 + 1, none⟩ = some (.int .i64 x.kind) ∧ w.cell? ⟨b, o + j * 6 + 2, none⟩ = some (.string (B x.dflt)) ∧ w.cell? ⟨b, o + j * 6 + 3, none⟩ = some (.int .i64 x.least) ∧ w.cell? ⟨b, o + j * 6 + 4, none⟩ = some (.int .i64 x.most) ∧ w.cell? ⟨b, o + j * 6 + 5, none⟩ = some (.string (B x.letter)) :=
  ⟨rw.Rw.cell h hx (i := 0) rfl, rw.Rw.cell h hx (i := 1) rfl, rw.Rw.cell h hx (i := 2) rfl, rw.Rw.cell h hx (i := 3) rfl, rw.Rw.cell h hx (i := 4) rfl, rw.Rw.cell h hx (i := 5) rfl⟩
theorem found1_any (x : Ky) (t : ByteArray) (w : World) :
    Calls Tryz.prog 85 #[.agg #[.string (B x.name), .int .i64 x.kind, .string (B x.dflt), .int .i64 x.least, .int .i64 x.most, .string (B x.letter)], .string t] w fun e w' => e = .returned (.int .i64 (cmpL (B x.name).data.toList t.data.toList)) ∧ Below w.heap.size w w' := by
  have hb : Below w.heap.size w (w.alloc (.cells #[.string (B x.name), .int .i64 x.kind, .string (B x.dflt), .int .i64 x.least, .int .i64 x.most, .string (B x.letter)] 62)) := (Below.refl _ _).alloc (Nat.le_refl _) _
  have Hb := Lib.hid hb
  have HC := Lib.hid (Tryz.strings_Compare (B x.name) t)
  clear hb
  generalize B x.name = nm at *
  generalize B x.dflt = df at *
  generalize B x.letter = lt at *
  go_enter Tryz.func85, Tryz.ntmps85
  go_wp2_with fail
  refine (HC.out _).mono ?_
  rintro e w1 ⟨rfl, rfl⟩
  go_wp2_with fail
  go_ret
  exact ⟨by rw [cmpB_eq]; rfl, Hb.out⟩
set_option maxHeartbeats 2000000 in
set_option maxRecDepth 100000 in
theorem bsearch_any (p : Option Addr) (m c : Nat) (R : List Ky) (t : List UInt8) (hm : m ≤ 4294967295) (ha : (R.map (·.name)).Pairwise fun a b => ltL a b = true) (w : World) (h : rw.Rw kyC 6 w (.slice p m c) R) :
    Calls Tryz.prog 84 #[.slice p m c, .string (B t), .func (.func 85) #[] #[]] w fun e w' =>
      (∃ k b, e = .returned (.tuple #[.int .i64 (k : Nat), .bool b]) ∧ FoundAt (R.map (·.name)) t k b) ∧ Below w.heap.size w w' := by
  have HR := Lib.hid h
  have Hptr := Lib.hid h.ptr
  have Ha := Lib.hid ha
  have Ht := Lib.hid (show (B t).data.toList = t from by simp)
  have HC := Lib.hid fun (x : Ky) W => found1_any x (B t) W
  generalize B t = tt at *
  clear h ha
  go_enter Tryz.func84, Tryz.ntmps84
  go_wp2_with fail
  go_loopw [9, 10] (fun vi vj wr => ∃ i j : Nat, i ≤ j ∧ j ≤ m ∧ vi = .int .i64 i ∧ vj = .int .i64 j ∧ Hid (Betw (R.map (·.name)) t i j) ∧ Hid (Below w.heap.size w wr)) (fun vi vj _ => (intOf vj).toNat - (intOf vi).toNat)
  case atStart => exact ⟨0, m, by omega, by omega, rfl, rfl, Lib.hid fun k x hx => ⟨fun hk => by omega, fun hk => by
    have := lt_get hx
    rw [List.length_map, Hptr.out.1] at this
    omega⟩, Lib.hid (Below.refl _ _)⟩
  case round =>
    obtain ⟨i, j, hij, hj, rfl, rfl, HB, Hb⟩ := hrel
    have hzr := Hb.out.size
    by_cases hlt : i < j
    · have hhm : (i + j) / 2 < m := by omega
      obtain ⟨b, o, rfl, hbl⟩ := Hptr.out.2.2 (by omega)
      obtain ⟨x, hx⟩ : ∃ x, R[(i + j) / 2]? = some x := ⟨_, List.getElem?_eq_getElem (by rw [Hptr.out.1]; exact hhm)⟩
      obtain ⟨k0, k1, k2, k3, k4, k5⟩ := ky_cells (HR.out.later Hb.out) hx
      have hxi : (R.map (·.name))[(i + j) / 2]? = some x.name := by rw [List.getElem?_map, hx]; rfl
      have HCx := Lib.hid (HC.out x)
      rw [B_list] at HCx
      have hbr : b < wr.heap.size := by omega
      cases hl : ltL x.name t with
      | true =>
        have HB2 := Lib.hid (betw_up Ha.out HB.out hxi hl)
        have hc : cmpL x.name t = -1 := by unfold cmpL; rw [if_pos hl]
        rw [Ht.out, hc] at HCx
        clear hl hxi hc hx HB
        generalize B x.name = nm at *
        generalize B x.dflt = df at *
        generalize B x.letter = lt at *
        generalize x.kind = kk at *
        generalize x.least = le at *
        generalize x.most = mo at *
        go_wp2_with fail
        refine (HCx.out _).mono ?_
        rintro e w1 ⟨rfl, hb1⟩
        have Hb1 := Lib.hid (then_bel Hb.out hb1)
        clear hb1
        go_wp2_with fail
        go_roundw
        case rel => exact ⟨(i + j) / 2 + 1, j, by omega, hj, by go_num, rfl, HB2, Hb1⟩
        case measure => simp [intOf]; omega
      | false =>
        have HB2 := Lib.hid (betw_dn Ha.out HB.out hxi hl)
        have hc : ∃ z : Int, cmpL x.name t = z ∧ 0 ≤ z := by
          unfold cmpL; rw [if_neg (by rw [hl]; simp)]; split
          · exact ⟨0, rfl, by omega⟩
          · exact ⟨1, rfl, by omega⟩
        obtain ⟨z, hc, hz0⟩ := hc
        rw [Ht.out, hc] at HCx
        clear hl hxi hc hx HB
        generalize B x.name = nm at *
        generalize B x.dflt = df at *
        generalize B x.letter = lt at *
        generalize x.kind = kk at *
        generalize x.least = le at *
        generalize x.most = mo at *
        have hz1 : decide (z < 0) = false := by rw [decide_eq_false_iff_not]; omega
        have hz2 : ¬ (z < 0) := by omega
        go_wp2_with fail
        refine (HCx.out _).mono ?_
        rintro e w1 ⟨rfl, hb1⟩
        have Hb1 := Lib.hid (then_bel Hb.out hb1)
        clear hb1
        go_wp2_with fail
        go_roundw
        case rel => exact ⟨i, (i + j) / 2, by omega, by omega, rfl, by go_num, HB2, Hb1⟩
        case measure => simp [intOf]; omega
    · obtain rfl : i = j := by omega
      have hF := betw_end (by rw [List.length_map, Hptr.out.1]; exact hj) HB.out
      by_cases h5 : i < m
      · obtain ⟨b, o, rfl, hbl⟩ := Hptr.out.2.2 (by omega)
        obtain ⟨x, hx⟩ : ∃ x, R[i]? = some x := ⟨_, List.getElem?_eq_getElem (by rw [Hptr.out.1]; exact h5)⟩
        obtain ⟨k0, k1, k2, k3, k4, k5⟩ := ky_cells (HR.out.later Hb.out) hx
        have hxi : (R.map (·.name))[i]? = some x.name := by rw [List.getElem?_map, hx]; rfl
        have HCx := Lib.hid (HC.out x)
        rw [B_list] at HCx
        have hbr : b < wr.heap.size := by omega
        rw [hxi] at hF
        have hl := (HB.out i _ hxi).2 (Nat.le_refl _)
        have hc : ∃ z : Int, cmpL x.name t = z ∧ decide (z = 0) = decide (some x.name = some t) := by
          unfold cmpL; rw [if_neg (by rw [hl]; simp)]; split
          · exact ⟨0, rfl, by simp [*]⟩
          · exact ⟨1, rfl, by simp [*]⟩
        obtain ⟨z, hc, hz0⟩ := hc
        rw [Ht.out, hc] at HCx
        rw [← hz0] at hF
        have HF := Lib.hid hF
        clear hl hxi hc hx HB hF hz0
        generalize B x.name = nm at *
        generalize B x.dflt = df at *
        generalize B x.letter = lt at *
        generalize x.kind = kk at *
        generalize x.least = le at *
        generalize x.most = mo at *
        have h5' : decide ((i : Int) < (m : Int)) = true := by simp; omega
        have h5i : (i : Int) < (m : Int) := by omega
        have h50 : (0 : Int) ≤ (i : Int) := by omega
        go_wp2_with fail
        refine (HCx.out _).mono ?_
        rintro e w1 ⟨rfl, hb1⟩
        have Hb1 := Lib.hid (then_bel Hb.out hb1)
        clear hb1
        go_wp2_with fail
        go_ret2
        exact ⟨⟨_, _, rfl, HF.out⟩, Hb1.out⟩
      · obtain rfl : i = m := by omega
        have h5' : decide ((i : Int) < (i : Int)) = false := by simp
        rw [List.getElem?_eq_none (by rw [List.length_map, Hptr.out.1]; exact Nat.le_refl _)] at hF
        have HF := Lib.hid hF
        clear HB hF
        go_wp2_with fail
        go_ret2
        exact ⟨⟨_, _, rfl, HF.out⟩, Hb.out⟩
/-- A set of definitions at block b: they ascend, and lie in a block of their own. -/
structure SetK (M : Nat) (w : World) (b : Nat) (S : List Ky) : Prop where
  lo : M ≤ b
  len : S.length ≤ 64
  asc : AscK S
  ok : ∀ x ∈ S, KyOk x
  blk : ∃ v, w.heap[b]? = some (.cells #[v] 85 (0, 0)) ∧ Blk 62 6 M w v S.length (rw.flat kyC S)
theorem SetK.later {M : Nat} {w w' : World} {b : Nat} {S : List Ky} (h : SetK M w b S) (hb : Below w.heap.size w w') : SetK M w' b S := by
  obtain ⟨h1, h2, h3, h4, v, hv, hB⟩ := h
  exact ⟨h1, h2, h3, h4, v, (hb.block b (lt_of_block hv)).trans hv, hB.later hb⟩
theorem SetK.lt {M : Nat} {w : World} {b : Nat} {S : List Ky} (h : SetK M w b S) : b < w.heap.size := by
  obtain ⟨_, _, _, _, v, hv, _⟩ := h
  exact lt_of_block hv
set_option maxHeartbeats 4000000 in
set_option maxRecDepth 100000 in
theorem found_any (M b : Nat) (S : List Ky) (t : List UInt8) (w : World) (hS : SetK M w b S) :
    Calls Tryz.prog 63 #[.pointer (some ⟨b, 0, none⟩), .string (B t)] w fun e w' => (∃ k is, e = .returned (.tuple #[.int .i64 (k : Nat), .bool is]) ∧ FoundAt (S.map (·.name)) t k is) ∧ Below w.heap.size w w' := by
  obtain ⟨_, hlen, hasc, _, v, hb, hB⟩ := hS
  obtain ⟨p, c, rfl⟩ := hB.form
  have c0 : w.cell? ⟨b, 0, none⟩ = some (.slice p S.length c) := cell_in hb
  have HS := Lib.hid (bsearch_any p S.length c S t (by omega) hasc w (blk_rw hB))
  clear hb hlen hB
  generalize S.length = n at *
  generalize B t = tt at *
  go_enter Tryz.func63, Tryz.ntmps63
  go_wp2_with fail
  refine HS.out.mono ?_
  rintro e w1 ⟨⟨k, is, rfl, hF⟩, hb1⟩
  have HF := Lib.hid hF
  have Hb1 := Lib.hid hb1
  clear hF hb1
  go_wp2_with fail
  go_ret2
  exact ⟨⟨_, _, rfl, HF.out⟩, Hb1.out⟩
end Go.Proofs.YtpfhhaonfbfheaaGreatDoor.ky
