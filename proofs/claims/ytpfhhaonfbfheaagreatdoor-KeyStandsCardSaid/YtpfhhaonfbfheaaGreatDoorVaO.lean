/- tinderboxlaw04.awake and ValueStands return true. Conditions: the listed variables hold what the program's text lays. -/
import Derived.Test.YtpfhhaonfbfheaaGreatDoorVaN
namespace Go.Proofs.YtpfhhaonfbfheaaGreatDoor.va
open Go.ChangeShapes Go.WideShapes Go.ChangeAt Go.RowKit gl

theorem keep {w w' : World} {b : Nat} {o : Obj} (h : w.heap[b]? = some o) (hb : Below w.heap.size w w') : w'.heap[b]? = some o := (hb.block _ (lt_of_block h)).trans h
theorem Strs.later {w w' : World} {v : Value} {xs : List ByteArray} (h : Strs w v xs) (hb : Below w.heap.size w w') : Strs w' v xs := h.below hb (Nat.le_refl _)
theorem Vlo.later {w w' : World} (h : Vlo w) (hb : Below w.heap.size w w') : Vlo w' := h.below hb (Nat.le_refl _)
theorem then_bel {w a b : World} (h : Below w.heap.size w a) (hb : Below a.heap.size a b) : Below w.heap.size w b := h.trans (hb.mono h.size)
theorem then_al {w a : World} (h : Below w.heap.size w a) (o : Obj) : Below w.heap.size w (a.alloc o) := h.alloc h.size o

/-- Parse where its answer is known. -/
theorem parsed (k : Int) (s : ByteArray) (hs : s.size ≤ 2147483647) {a b : Int} {t : ByteArray} {ws : List ByteArray} {er : Int} (h : parse wordL k s.data.toList = (⟨a, b, t, ws⟩, er)) (w : World) (hV : Vlo w) :
    Calls Tryz.prog 71 #[.int .i64 k, .string s] w fun e w' => (∃ (p : Option Addr) (n c : Nat), e = .returned (.tuple #[.agg #[.int .i64 a, .int .i64 b, .string t, .slice p n c], .int .i64 er]) ∧ Strs w' (.slice p n c) ws ∧ n = ws.length) ∧ Below w.heap.size w w' :=
  (Parse_any k s hs w hV).mono fun e w' ⟨⟨sl, he, hf⟩, hb⟩ => by
    rw [h] at he hf
    have hst := hf.strs
    obtain ⟨p, c, rfl, hc⟩ := hst
    exact ⟨⟨p, _, c, he, hf.strs, rfl⟩, hb⟩

theorem e1 : parse wordL 3 (⟨#[50, 48, 52, 56, 107]⟩ : ByteArray).data.toList = (⟨3, 2097152, ByteArray.empty, []⟩, 0) := by kernel_rfl
theorem e2 : parse wordL 6 (⟨#[108, 111, 103, 44, 110, 101, 116]⟩ : ByteArray).data.toList = (⟨6, 0, ByteArray.empty, [⟨#[108, 111, 103]⟩, ⟨#[110, 101, 116]⟩]⟩, 0) := by kernel_rfl
theorem e3 : parse wordL 4 (⟨#[53]⟩ : ByteArray).data.toList = (⟨0, 0, ByteArray.empty, []⟩, 40) := by kernel_rfl
theorem e4 : parse wordL 7 (⟨#[111, 110]⟩ : ByteArray).data.toList = (⟨0, 0, ByteArray.empty, []⟩, 1) := by kernel_rfl
theorem e5 : parse wordL 2 (⟨#[52, 54, 49, 49, 54, 56, 54, 48, 49, 56, 52, 50, 55, 51, 56, 55, 57, 48, 53]⟩ : ByteArray).data.toList = (⟨0, 0, ByteArray.empty, []⟩, 41) := by kernel_rfl
def vA : Val := ⟨3, 2097152, ByteArray.empty, []⟩
def vB : Val := ⟨6, 0, ByteArray.empty, [⟨#[108, 111, 103]⟩, ⟨#[110, 101, 116]⟩]⟩
theorem vA_b : Vb vA := ⟨by decide, by decide, by decide, by decide, by decide, by decide⟩
theorem vB_b : Vb vB := ⟨by decide, by decide, by decide, by decide, by decide, by decide⟩
theorem vA_r : right wordL vA = true := by kernel_rfl
theorem vB_r : right wordL vB = true := by kernel_rfl
theorem vA_p : print wordL vA = ([50, 109], 0) := by
  rw [print_t vA_r]
  have hb : best 3 2097152 = 2 := by kernel_rfl
  have hp : prints vA = Lib.itoa (2097152 / unit 3 (uname 3 (best 3 2097152))) ++ uname 3 (best 3 2097152) := rfl
  rw [hp, hb]
  have h2 : (2097152 : Int) / unit 3 (uname 3 2) = 2 := by kernel_rfl
  rw [h2, itoa_pos (by decide), decDigits_lt (by decide)]
  rfl
theorem vB_w1 : within wordL vB 0 2 = true := by kernel_rfl
theorem vB_w2 : within wordL vB 0 1 = false := by kernel_rfl
theorem vAB : decide (vA = vB) = false := by decide
theorem u_d : unit 4 [100] = 86400 := by decide

end Go.Proofs.YtpfhhaonfbfheaaGreatDoor.va
