/- Package key: the lists that stand, a set of several lists, the standard set. Conditions: the listed variables hold what the program's text lays. -/
import Derived.Test.YtpfhhaonfbfheaaGreatDoorKyH
import Derived.Test.YtpfhhaonfbfheaaGreatDoorKyL
import Derived.Test.YtpfhhaonfbfheaaGreatDoorKyD
namespace Go.Proofs.YtpfhhaonfbfheaaGreatDoor.ky
open Go.ChangeShapes Go.WideShapes Go.ChangeAt Go.RowKit gl va ls

theorem kys_lit {w : World} {g : Nat} {l : List Ky} {cs : Array Value} (h : w.heap[g]? = some (.cells cs 62 (0, 0))) (hc : cs.toList = rw.flat kyC l) : Kys w (.slice (some ⟨g, 0, none⟩) l.length l.length) l := by
  refine ⟨_, _, rfl, Nat.le_refl _, .inr ⟨g, 0, rfl, lt_of_block h, fun j x hx i u hu => ?_⟩⟩
  rw [cell_in h, Nat.zero_add, ← Array.getElem?_toList, hc]
  exact rw.flat_at kyC_len l j x i u hx hu
set_option maxRecDepth 100000 in
theorem log_any (w : World) : Calls Tryz.prog 34 #[] w fun e w' => (∃ p, e = .returned (.slice p 3 3) ∧ Kys w' (.slice p 3 3) logK) ∧ Below w.heap.size w w' := by
  have Hb : Hid (Below w.heap.size w (w.alloc (.cells #[.string ⟨#[108, 111, 103, 46, 102, 105, 108, 101]⟩, .int .i64 5, .string ⟨#[36, 123, 115, 116, 111, 114, 101, 46, 100, 105, 114, 125, 47, 108, 111, 103]⟩, .int .i64 0, .int .i64 0, .string ⟨#[]⟩, .string ⟨#[108, 111, 103, 46, 107, 101, 101, 112]⟩, .int .i64 4, .string ⟨#[55, 100]⟩, .int .i64 1, .int .i64 2592000, .string ⟨#[]⟩, .string ⟨#[108, 111, 103, 46, 108, 101, 118, 101, 108]⟩, .int .i64 2, .string ⟨#[50]⟩, .int .i64 0, .int .i64 5, .string ⟨#[118]⟩] 62))) := Lib.hid ((Below.refl _ _).alloc (Nat.le_refl _) _)
  have HK : Hid (Kys (w.alloc (.cells #[.string ⟨#[108, 111, 103, 46, 102, 105, 108, 101]⟩, .int .i64 5, .string ⟨#[36, 123, 115, 116, 111, 114, 101, 46, 100, 105, 114, 125, 47, 108, 111, 103]⟩, .int .i64 0, .int .i64 0, .string ⟨#[]⟩, .string ⟨#[108, 111, 103, 46, 107, 101, 101, 112]⟩, .int .i64 4, .string ⟨#[55, 100]⟩, .int .i64 1, .int .i64 2592000, .string ⟨#[]⟩, .string ⟨#[108, 111, 103, 46, 108, 101, 118, 101, 108]⟩, .int .i64 2, .string ⟨#[50]⟩, .int .i64 0, .int .i64 5, .string ⟨#[118]⟩] 62)) (.slice (some ⟨w.heap.size, 0, none⟩) 3 3) logK) := Lib.hid (kys_lit (l := logK) (heap_alloc_new w _) rfl)
  go_enter Tryz.func34, Tryz.ntmps34
  go_wp2_with fail
  go_ret
  exact ⟨⟨_, rfl, HK.out⟩, Hb.out⟩
set_option maxRecDepth 100000 in
theorem net_any (w : World) : Calls Tryz.prog 35 #[] w fun e w' => (∃ p, e = .returned (.slice p 5 5) ∧ Kys w' (.slice p 5 5) netK) ∧ Below w.heap.size w w' := by
  have Hb : Hid (Below w.heap.size w (w.alloc (.cells #[.string ⟨#[110, 101, 116, 46, 104, 111, 115, 116]⟩, .int .i64 5, .string ⟨#[108, 111, 99, 97, 108, 104, 111, 115, 116]⟩, .int .i64 0, .int .i64 0, .string ⟨#[]⟩, .string ⟨#[110, 101, 116, 46, 112, 101, 101, 114, 115]⟩, .int .i64 6, .string ⟨#[]⟩, .int .i64 0, .int .i64 16, .string ⟨#[]⟩, .string ⟨#[110, 101, 116, 46, 112, 111, 114, 116]⟩, .int .i64 2, .string ⟨#[56, 48, 56, 48]⟩, .int .i64 1, .int .i64 65535, .string ⟨#[112]⟩, .string ⟨#[110, 101, 116, 46, 116, 105, 109, 101, 111, 117, 116]⟩, .int .i64 4, .string ⟨#[51, 48, 115]⟩, .int .i64 1, .int .i64 3600, .string ⟨#[]⟩, .string ⟨#[110, 101, 116, 46, 117, 114, 108]⟩, .int .i64 5, .string ⟨#[104, 116, 116, 112, 58, 47, 47, 36, 123, 110, 101, 116, 46, 104, 111, 115, 116, 125, 58, 36, 123, 110, 101, 116, 46, 112, 111, 114, 116, 125]⟩, .int .i64 0, .int .i64 0, .string ⟨#[]⟩] 62))) := Lib.hid ((Below.refl _ _).alloc (Nat.le_refl _) _)
  have HK : Hid (Kys (w.alloc (.cells #[.string ⟨#[110, 101, 116, 46, 104, 111, 115, 116]⟩, .int .i64 5, .string ⟨#[108, 111, 99, 97, 108, 104, 111, 115, 116]⟩, .int .i64 0, .int .i64 0, .string ⟨#[]⟩, .string ⟨#[110, 101, 116, 46, 112, 101, 101, 114, 115]⟩, .int .i64 6, .string ⟨#[]⟩, .int .i64 0, .int .i64 16, .string ⟨#[]⟩, .string ⟨#[110, 101, 116, 46, 112, 111, 114, 116]⟩, .int .i64 2, .string ⟨#[56, 48, 56, 48]⟩, .int .i64 1, .int .i64 65535, .string ⟨#[112]⟩, .string ⟨#[110, 101, 116, 46, 116, 105, 109, 101, 111, 117, 116]⟩, .int .i64 4, .string ⟨#[51, 48, 115]⟩, .int .i64 1, .int .i64 3600, .string ⟨#[]⟩, .string ⟨#[110, 101, 116, 46, 117, 114, 108]⟩, .int .i64 5, .string ⟨#[104, 116, 116, 112, 58, 47, 47, 36, 123, 110, 101, 116, 46, 104, 111, 115, 116, 125, 58, 36, 123, 110, 101, 116, 46, 112, 111, 114, 116, 125]⟩, .int .i64 0, .int .i64 0, .string ⟨#[]⟩] 62)) (.slice (some ⟨w.heap.size, 0, none⟩) 5 5) netK) := Lib.hid (kys_lit (l := netK) (heap_alloc_new w _) rfl)
  go_enter Tryz.func35, Tryz.ntmps35
  go_wp2_with fail
  go_ret
  exact ⟨⟨_, rfl, HK.out⟩, Hb.out⟩
set_option maxRecDepth 100000 in
theorem store_any (w : World) : Calls Tryz.prog 36 #[] w fun e w' => (∃ p, e = .returned (.slice p 4 4) ∧ Kys w' (.slice p 4 4) storeK) ∧ Below w.heap.size w w' := by
  have Hb : Hid (Below w.heap.size w (w.alloc (.cells #[.string ⟨#[115, 116, 111, 114, 101, 46, 98, 108, 111, 99, 107, 115]⟩, .int .i64 2, .string ⟨#[54, 52]⟩, .int .i64 8, .int .i64 4096, .string ⟨#[98]⟩, .string ⟨#[115, 116, 111, 114, 101, 46, 99, 97, 99, 104, 101]⟩, .int .i64 3, .string ⟨#[52, 109]⟩, .int .i64 0, .int .i64 1073741824, .string ⟨#[99]⟩, .string ⟨#[115, 116, 111, 114, 101, 46, 100, 105, 114]⟩, .int .i64 5, .string ⟨#[47, 118, 97, 114, 47, 116, 105, 110, 100, 101, 114]⟩, .int .i64 0, .int .i64 0, .string ⟨#[100]⟩, .string ⟨#[115, 116, 111, 114, 101, 46, 112, 97, 103, 101]⟩, .int .i64 3, .string ⟨#[52, 107]⟩, .int .i64 512, .int .i64 65536, .string ⟨#[]⟩] 62))) := Lib.hid ((Below.refl _ _).alloc (Nat.le_refl _) _)
  have HK : Hid (Kys (w.alloc (.cells #[.string ⟨#[115, 116, 111, 114, 101, 46, 98, 108, 111, 99, 107, 115]⟩, .int .i64 2, .string ⟨#[54, 52]⟩, .int .i64 8, .int .i64 4096, .string ⟨#[98]⟩, .string ⟨#[115, 116, 111, 114, 101, 46, 99, 97, 99, 104, 101]⟩, .int .i64 3, .string ⟨#[52, 109]⟩, .int .i64 0, .int .i64 1073741824, .string ⟨#[99]⟩, .string ⟨#[115, 116, 111, 114, 101, 46, 100, 105, 114]⟩, .int .i64 5, .string ⟨#[47, 118, 97, 114, 47, 116, 105, 110, 100, 101, 114]⟩, .int .i64 0, .int .i64 0, .string ⟨#[100]⟩, .string ⟨#[115, 116, 111, 114, 101, 46, 112, 97, 103, 101]⟩, .int .i64 3, .string ⟨#[52, 107]⟩, .int .i64 512, .int .i64 65536, .string ⟨#[]⟩] 62)) (.slice (some ⟨w.heap.size, 0, none⟩) 4 4) storeK) := Lib.hid (kys_lit (l := storeK) (heap_alloc_new w _) rfl)
  go_enter Tryz.func36, Tryz.ntmps36
  go_wp2_with fail
  go_ret
  exact ⟨⟨_, rfl, HK.out⟩, Hb.out⟩
set_option maxRecDepth 100000 in
theorem boot_any (w : World) : Calls Tryz.prog 37 #[] w fun e w' => (∃ p, e = .returned (.slice p 4 4) ∧ Kys w' (.slice p 4 4) bootK) ∧ Below w.heap.size w w' := by
  have Hb : Hid (Below w.heap.size w (w.alloc (.cells #[.string ⟨#[98, 111, 111, 116, 46, 100, 114, 121]⟩, .int .i64 1, .string ⟨#[102, 97, 108, 115, 101]⟩, .int .i64 0, .int .i64 0, .string ⟨#[110]⟩, .string ⟨#[98, 111, 111, 116, 46, 108, 105, 109, 105, 116]⟩, .int .i64 2, .string ⟨#[48]⟩, .int .i64 0, .int .i64 1024, .string ⟨#[]⟩, .string ⟨#[98, 111, 111, 116, 46, 115, 101, 114, 118, 105, 99, 101, 115]⟩, .int .i64 6, .string ⟨#[108, 111, 103, 44, 110, 101, 116]⟩, .int .i64 0, .int .i64 16, .string ⟨#[115]⟩, .string ⟨#[98, 111, 111, 116, 46, 119, 111, 114, 107, 101, 114, 115]⟩, .int .i64 2, .string ⟨#[48]⟩, .int .i64 0, .int .i64 64, .string ⟨#[119]⟩] 62))) := Lib.hid ((Below.refl _ _).alloc (Nat.le_refl _) _)
  have HK : Hid (Kys (w.alloc (.cells #[.string ⟨#[98, 111, 111, 116, 46, 100, 114, 121]⟩, .int .i64 1, .string ⟨#[102, 97, 108, 115, 101]⟩, .int .i64 0, .int .i64 0, .string ⟨#[110]⟩, .string ⟨#[98, 111, 111, 116, 46, 108, 105, 109, 105, 116]⟩, .int .i64 2, .string ⟨#[48]⟩, .int .i64 0, .int .i64 1024, .string ⟨#[]⟩, .string ⟨#[98, 111, 111, 116, 46, 115, 101, 114, 118, 105, 99, 101, 115]⟩, .int .i64 6, .string ⟨#[108, 111, 103, 44, 110, 101, 116]⟩, .int .i64 0, .int .i64 16, .string ⟨#[115]⟩, .string ⟨#[98, 111, 111, 116, 46, 119, 111, 114, 107, 101, 114, 115]⟩, .int .i64 2, .string ⟨#[48]⟩, .int .i64 0, .int .i64 64, .string ⟨#[119]⟩] 62)) (.slice (some ⟨w.heap.size, 0, none⟩) 4 4) bootK) := Lib.hid (kys_lit (l := bootK) (heap_alloc_new w _) rfl)
  go_enter Tryz.func37, Tryz.ntmps37
  go_wp2_with fail
  go_ret
  exact ⟨⟨_, rfl, HK.out⟩, Hb.out⟩
/-- A row of lists. -/
def Rows4 (w : World) (g : Nat) (ls : List (List Ky)) : Prop := ∃ cs, w.heap[g]? = some (.cells cs 27 (0, 0)) ∧ ∀ (i : Nat) (l : List Ky), ls[i]? = some l → ∃ v, cs[i]? = some v ∧ Kys w v l
theorem Rows4.later {w w' : World} {g : Nat} {ls : List (List Ky)} (h : Rows4 w g ls) (hb : Below w.heap.size w w') : Rows4 w' g ls := by
  obtain ⟨cs, h1, h2⟩ := h
  refine ⟨cs, (hb.block g (lt_of_block h1)).trans h1, fun i l hl => ?_⟩
  obtain ⟨v, hv, hk⟩ := h2 i l hl
  exact ⟨v, hv, hk.later hb⟩
/-- A set may read what lies below it. -/
theorem add_step (S : List Ky) (l : List Ky) (j : Nat) (x : Ky) (h : l[j]? = some x) : addAll S (l.take (j + 1)) = addK (addAll S (l.take j)) x := by
  have e : l.take (j + 1) = l.take j ++ [x] := by
    have hlt : j < l.length := (List.getElem?_eq_some_iff.1 h).1
    rw [List.take_succ_eq_append_getElem hlt]
    rw [List.getElem?_eq_getElem hlt] at h
    rw [Option.some.inj h]
  rw [e, addAll_append]
  rfl
end Go.Proofs.YtpfhhaonfbfheaaGreatDoor.ky
