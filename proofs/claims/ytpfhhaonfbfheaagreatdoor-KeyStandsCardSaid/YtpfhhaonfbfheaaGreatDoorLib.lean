/- Laws on memory for any program: bytes of a string laid as a row, a row of bytes read as a string, appends to a row of bytes that the call owns. No program in sight; no conditions beside those that each theorem states. -/
import Derived.WalkKit
import Derived.WalkLawsBesides
import Derived.WalkSpells
import Derived.Deep.MidRow
import Derived.Lib.Hide
import Derived.Handy
import Derived.Maps.AppendAt
import Derived.Deep.AppendLies
namespace Go.Proofs.YtpfhhaonfbfheaaGreatDoor
open Go.RowKit

theorem ret_int' {k : IntKind} {a b : Int} (h : b = a) : Ending.returned (.int k a) = .returned (.int k b) := by rw [h]
theorem ret_bool {a b : Bool} (h : b = a) : Ending.returned (.bool a) = .returned (.bool b) := by rw [h]
theorem ret_str {a b : ByteArray} (h : b = a) : Ending.returned (.string a) = .returned (.string b) := by rw [h]

/-- A string of bytes as cells. -/
def bv (l : List UInt8) : List Value := l.map fun b => .int .u8 (b.toNat : Int)
theorem bv_length (l : List UInt8) : (bv l).length = l.length := by simp [bv]
theorem bv_append (a b : List UInt8) : bv (a ++ b) = bv a ++ bv b := by simp [bv]
theorem bv_get (l : List UInt8) (j : Nat) : (bv l)[j]? = l[j]?.map fun b => Value.int .u8 (b.toNat : Int) := by simp [bv]
theorem bv_one (l : List UInt8) : ∀ u ∈ bv l, u.oneCell' = true := by
  intro u hu
  simp only [bv, List.mem_map] at hu
  obtain ⟨b, _, rfl⟩ := hu
  rfl

/-- A string's byte at a place, as a letter. -/
theorem byteAt (s : ByteArray) (k : Nat) (h : k < s.size) : ∃ b : UInt8, s.data.toList[k]? = some b ∧ (∀ h' : k < s.size, ((s[k]'h').toNat : Int) = (b.toNat : Int)) ∧ (0 : Int) ≤ (b.toNat : Int) ∧ (b.toNat : Int) ≤ 255 :=
  ⟨s[k], by
    have : s.data.toList[k]? = some (s.data[k]'h) := by simp [h]
    exact this, fun _ => rfl, by omega, by have := (s[k]).toNat_lt; omega⟩

/-- The bytes l lie at the head of block g, and may be written. -/
structure Lies (w : World) (g : Nat) (l : List UInt8) : Prop where
  cell : ∀ j b, l[j]? = some b → w.cell? ⟨g, j, none⟩ = some (.int .u8 (b.toNat : Int))
  free : ∀ j, j < l.length → w.frozen? ⟨g, j, none⟩ = false

theorem Lies.below {w w' : World} {g B : Nat} {l : List UInt8} (h : Lies w g l) (hb : Below B w w') (hg : g < B) : Lies w' g l :=
  ⟨fun j b hj => (hb.cell (p := ⟨g, j, none⟩) hg).trans (h.cell j b hj), fun j hj => (hb.frozen (p := ⟨g, j, none⟩) hg).trans (h.free j hj)⟩
theorem Lies.grown {w w' : World} {g : Nat} {row : Option Nat} {l : List UInt8} (h : Lies w g l) (hb : w.grownBy w' row) (hg : g < w.heap.size) (hr : some g ≠ row) : Lies w' g l :=
  ⟨fun j b hj => (World.cell?_of_block (hb.block g hg hr)).trans (h.cell j b hj), fun j hj => (World.frozen?_of_block (hb.block g hg hr)).trans (h.free j hj)⟩

section
variable {P : Program}

/-- '[]byte(s)': the bytes lie in a new block. -/
theorem wpList_bytes_of_string {ops : Array Oper} {rest : List Oper} {o : Oper} {a : Act} {w : World} {Q : Exit → Act → World → Prop} (hgd : o.guard = none) (src dst e : TypeId) (x : Operand) (ho : o.op = .convert src dst x)
    (s : ByteArray) (hx : a.eval x = .string s) (hs : P.underlying src = some .string) (hd : P.underlying dst = some (.slice e)) (he : P.underlying e = some (.int .u8))
    (h : ∀ (cap : Nat) (w1 : World), Lies w1 w.heap.size s.data.toList → Below w.heap.size w w1 → w.heap.size < w1.heap.size → s.size ≤ cap → wpList P ops Q rest (a.put o.dst (.slice (some ⟨w.heap.size, 0, none⟩) s.size cap)) w1) :
    wpList P ops Q (o :: rest) a w := by
  refine wpList_plain hgd fun K hK => ?_
  unfold Oper.wp execOp
  simp only [ho, hx, Sem.run_bind, Sem.run_pure, Result.andThen_ok, run_bytes_of_string w src dst e s hs hd he]
  refine hK _ _ (h _ _ ⟨fun j b hj => ?_, fun j hj => ?_⟩ ((Below.refl _ _).drew.alloc (Nat.le_refl _) _) (by simp) (grownCap_ge w s.size 0 e))
  · have hlt : j < s.data.size := by
      rcases Nat.lt_or_ge j s.data.size with h1 | h1
      · exact h1
      · rw [List.getElem?_eq_none (by simpa using h1)] at hj; cases hj
    have hb : s.data[j] = b := by
      have : s.data.toList[j]? = some s.data[j] := by simp
      rw [this] at hj
      exact Option.some.inj hj
    have hc := World.cell?_alloc_mark w.drew (bytesRow s (grownCap w s.size 0 e)) e ((bytesRow s (grownCap w s.size 0 e)).size, (bytesRow s (grownCap w s.size 0 e)).size + 1) j
    rw [bytesRow_at s _ j hlt, hb] at hc
    exact hc
  · have hf := World.frozen?_alloc_mark w.drew (bytesRow s (grownCap w s.size 0 e)) e (bytesRow s (grownCap w s.size 0 e)).size ((bytesRow s (grownCap w s.size 0 e)).size + 1) j
    have hlt : j < (bytesRow s (grownCap w s.size 0 e)).size := by
      simp [bytesRow] at hj ⊢
      omega
    rw [show (decide ((bytesRow s (grownCap w s.size 0 e)).size ≤ j) && decide (j < (bytesRow s (grownCap w s.size 0 e)).size + 1)) = false from by simp; omega] at hf
    exact hf

/-- 'string(b)', b's bytes lying at a block's head. -/
theorem run_string_of_lies (w : World) (src e dst : TypeId) (hs : P.underlying src = some (.slice e)) (he : P.underlying e = some (.int .u8)) (hd : P.underlying dst = some .string) (g cap : Nat) (l : List UInt8) (hl : ∀ j b, l[j]? = some b → w.cell? ⟨g, j, none⟩ = some (.int .u8 (b.toNat : Int))) :
    (convert src dst (.slice (some ⟨g, 0, none⟩) l.length cap)).run P w = .ok (.string ⟨l.toArray⟩) w := by
  refine run_convert_bytes_back w src dst e ⟨g, 0, none⟩ cap l hs he hd fun j hj => ?_
  have hadd : (⟨g, 0, none⟩ : Addr).add j = ⟨g, j, none⟩ := by unfold Addr.add; split <;> simp_all
  rw [hadd]
  exact hl j l[j] (List.getElem?_eq_getElem hj)

theorem wpList_string_of_lies {ops : Array Oper} {rest : List Oper} {o : Oper} {a : Act} {w : World} {Q : Exit → Act → World → Prop} (hgd : o.guard = none) (src dst e : TypeId) (x : Operand) (ho : o.op = .convert src dst x)
    (g n cap : Nat) (l : List UInt8) (hn : l.length = n) (hx : a.eval x = .slice (some ⟨g, 0, none⟩) n cap) (hs : P.underlying src = some (.slice e)) (he : P.underlying e = some (.int .u8)) (hd : P.underlying dst = some .string)
    (hl : ∀ j b, l[j]? = some b → w.cell? ⟨g, j, none⟩ = some (.int .u8 (b.toNat : Int)))
    (h : wpList P ops Q rest (a.put o.dst (.string ⟨l.toArray⟩)) w) : wpList P ops Q (o :: rest) a w := by
  subst hn
  refine wpList_plain hgd fun K hK => ?_
  unfold Oper.wp execOp
  simp only [ho, hx, Sem.run_bind, Sem.run_pure, Result.andThen_ok, run_string_of_lies w src e dst hs he hd g cap l hl]
  exact hK _ _ h

/-- The same of a row of bytes that the call owns, nil too. -/
theorem run_string_of_own (w : World) (src e dst : TypeId) (hs : P.underlying src = some (.slice e)) (he : P.underlying e = some (.int .u8)) (hd : P.underlying dst = some .string) (base n : Nat) (v : Value) (l : List UInt8) (hown : w.ownsRow base e 1 v n (bv l)) :
    (convert src dst v).run P w = .ok (.string ⟨l.toArray⟩) w := by
  have hlen : l.length = n := by have := hown.1; rw [bv_length] at this; omega
  rcases hown.2 with ⟨rfl, rfl⟩ | ⟨g, cap, cur, rfl, _⟩
  · rw [run_convert_bytes_nil w src e hs he 0 0 dst hd]
    obtain rfl : l = [] := List.eq_nil_of_length_eq_zero hlen
    rfl
  · subst hlen
    refine run_string_of_lies w src e dst hs he hd g cap l fun j b hj => ?_
    have hc := hown.cells (g := g) rfl j (.int .u8 (b.toNat : Int)) (by rw [bv_get, hj]; rfl)
    rwa [show (⟨g, 0, none⟩ : Addr).add j = ⟨g, j, none⟩ from by unfold Addr.add; split <;> simp_all] at hc

theorem wpList_string_of_own {ops : Array Oper} {rest : List Oper} {o : Oper} {a : Act} {w : World} {Q : Exit → Act → World → Prop} (hgd : o.guard = none) (src dst e : TypeId) (x : Operand) (ho : o.op = .convert src dst x)
    (base n : Nat) (v : Value) (l : List UInt8) (hx : a.eval x = v) (hown : w.ownsRow base e 1 v n (bv l)) (hs : P.underlying src = some (.slice e)) (he : P.underlying e = some (.int .u8)) (hd : P.underlying dst = some .string)
    (h : wpList P ops Q rest (a.put o.dst (.string ⟨l.toArray⟩)) w) : wpList P ops Q (o :: rest) a w := by
  refine wpList_plain hgd fun K hK => ?_
  unfold Oper.wp execOp
  simp only [ho, hx, Sem.run_bind, Sem.run_pure, Result.andThen_ok, run_string_of_own w src e dst hs he hd base n v l hown]
  exact hK _ _ h
end
end Go.Proofs.YtpfhhaonfbfheaaGreatDoor
