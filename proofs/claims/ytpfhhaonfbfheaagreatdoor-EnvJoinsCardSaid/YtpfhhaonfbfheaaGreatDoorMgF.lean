/- Laws and contracts on which the statement rests, part F: each text says what it proves, and its conditions. -/
import Derived.Test.YtpfhhaonfbfheaaGreatDoorMgE
import Derived.Test.YtpfhhaonfbfheaaGreatDoorMgD
import Derived.Laws.CopyRow
import Derived.Laws.CopyOwn
import Derived.Laws.IdiomCopy
import Derived.Laws.MakeOwn
import Derived.Test.YtpfhhaonfbfheaaGreatDoorMgC
/- Package key: the lists that stand, a set of several lists, the standard set. Conditions: the listed variables hold what the program's text lays. -/
namespace Go.Proofs.YtpfhhaonfbfheaaGreatDoor.ky
open Go.ChangeShapes Go.WideShapes Go.ChangeAt Go.RowKit gl va ls

theorem kys_lit {w : World} {g : Nat} {l : List Ky} {cs : Array Value} (h : w.heap[g]? = some (.cells cs 62 (0, 0))) (hc : cs.toList = rw.flat kyC l) : Kys w (.slice (some ⟨g, 0, none⟩) l.length l.length) l := by
  refine ⟨_, _, rfl, Nat.le_refl _, .inr ⟨g, 0, rfl, lt_of_block h, fun j x hx i u hu => ?_⟩⟩
  rw [cell_in h, Nat.zero_add, ← Array.getElem?_toList, hc]
  exact rw.flat_at kyC_len l j x i u hx hu
set_option maxRecDepth 100000 in
theorem log_any (w : World) : Calls Tryz.prog 34 #[] w fun e w' => (∃ p, e = .returned (.slice p 3 3) ∧ Kys w' (.slice p 3 3) logK) ∧ Below w.heap.size w w' := by
  have Hb : Hid (Below w.heap.size w (w.alloc (.cells #[.string ⟨#[108, 111, 103, 46, 102, 105, 108, 101]⟩, .int .i64 5, .string ⟨#[36, 123, 115, 116, 111, 114, 101, 46, 100, 105, 114, 125, 47, 108, 111, 103]⟩, .int .i64 0, .int .i64 0, .string ⟨#[]⟩, .string ⟨#[108, 111, 103, 46, 107, 101, 101, 112]⟩, .int .i64 4, .string ⟨#[55, 100]⟩, .int .i64 1, .int .i64 2592000, .string ⟨#[]⟩, .string ⟨#[108, 111, 103, 46, 108, 101, 118, 101, 108]⟩, .int .i64 2, .string ⟨#[50]⟩, .int .i64 0, .int .i64 5, .string ⟨#[118]⟩] 62))) := Lib.hid ((Below.refl _ _).alloc (Nat.le_refl _) _)
  have HK : Hid (Kys (w.alloc (.cells #[.string ⟨#[108, 111, 103, 46, 102, 105, 108, 101]⟩, .int .i64 5, .string ⟨#[36, 123, 115, 116, 111, 114, 101, 46, 100, 105, 114, 125, 47, 108, 111, 103]⟩, .int .i64 0, .int .i64 0, .string ⟨#[]⟩, .string ⟨#[108, 111, 103, 46, 107, 101, 101, 112]⟩, .int .i64 4, .string ⟨#[55, 100]⟩, .int .i64 1, .int .i64 2592000, .string ⟨#[]⟩, .string ⟨#[108, 111, 103, 46, 108, 101, 118, 101, 108]⟩, .int .i64 2, .string ⟨#[50]⟩, .int .i64 0, .int .i64 5, .string ⟨#[118]⟩] 62)) (.slice (some ⟨w.heap.size, 0, none⟩) 3 3) logK) := Lib.hid (kys_lit (l := logK) (heap_alloc_new w _) rfl)
  go_enter Tryz.func34, Tryz.ntmps34
  go_wp2_with fail
  go_ret
  exact ⟨⟨_, rfl, HK.out⟩, Hb.out⟩
set_option maxRecDepth 100000 in
theorem net_any (w : World) : Calls Tryz.prog 35 #[] w fun e w' => (∃ p, e = .returned (.slice p 5 5) ∧ Kys w' (.slice p 5 5) netK) ∧ Below w.heap.size w w' := by
  have Hb : Hid (Below w.heap.size w (w.alloc (.cells #[.string ⟨#[110, 101, 116, 46, 104, 111, 115, 116]⟩, .int .i64 5, .string ⟨#[108, 111, 99, 97, 108, 104, 111, 115, 116]⟩, .int .i64 0, .int .i64 0, .string ⟨#[]⟩, .string ⟨#[110, 101, 116, 46, 112, 101, 101, 114, 115]⟩, .int .i64 6, .string ⟨#[]⟩, .int .i64 0, .int .i64 16, .string ⟨#[]⟩, .string ⟨#[110, 101, 116, 46, 112, 111, 114, 116]⟩, .int .i64 2, .string ⟨#[56, 48, 56, 48]⟩, .int .i64 1, .int .i64 65535, .string ⟨#[112]⟩, .string ⟨#[110, 101, 116, 46, 116, 105, 109, 101, 111, 117, 116]⟩, .int .i64 4, .string ⟨#[51, 48, 115]⟩, .int .i64 1, .int .i64 3600, .string ⟨#[]⟩, .string ⟨#[110, 101, 116, 46, 117, 114, 108]⟩, .int .i64 5, .string ⟨#[104, 116, 116, 112, 58, 47, 47, 36, 123, 110, 101, 116, 46, 104, 111, 115, 116, 125, 58, 36, 123, 110, 101, 116, 46, 112, 111, 114, 116, 125]⟩, .int .i64 0, .int .i64 0, .string ⟨#[]⟩] 62))) := Lib.hid ((Below.refl _ _).alloc (Nat.le_refl _) _)
  have HK : Hid (Kys (w.alloc (.cells #[.string ⟨#[110, 101, 116, 46, 104, 111, 115, 116]⟩, .int .i64 5, .string ⟨#[108, 111, 99, 97, 108, 104, 111, 115, 116]⟩, .int .i64 0, .int .i64 0, .string ⟨#[]⟩, .string ⟨#[110, 101, 116, 46, 112, 101, 101, 114, 115]⟩, .int .i64 6, .string ⟨#[]⟩, .int .i64 0, .int .i64 16, .string ⟨#[]⟩, .string ⟨#[110, 101, 116, 46, 112, 111, 114, 116]⟩, .int .i64 2, .string ⟨#[56, 48, 56, 48]⟩, .int .i64 1, .int .i64 65535, .string ⟨#[112]⟩, .string ⟨#[110, 101, 116, 46, 116, 105, 109, 101, 111, 117, 116]⟩, .int .i64 4, .string ⟨#[51, 48, 115]⟩, .int .i64 1, .int .i64 3600, .string ⟨#[]⟩, .string ⟨#[110, 101, 116, 46, 117, 114, 108]⟩, .int .i64 5, .string ⟨#[104, 116, 116, 112, 58, 47, 47, 36, 123, 110, 101, 116, 46, 104, 111, 115, 116, 125, 58, 36, 123, 110, 101, 116, 46, 112, 111, 114, 116, 125]⟩, .int .i64 0, .int .i64 0, .string ⟨#[]⟩] 62)) (.slice (some ⟨w.heap.size, 0, none⟩) 5 5) netK) := Lib.hid (kys_lit (l := netK) (heap_alloc_new w _) rfl)
  go_enter Tryz.func35, Tryz.ntmps35
  go_wp2_with fail
  go_ret
  exact ⟨⟨_, rfl, HK.out⟩, Hb.out⟩
set_option maxRecDepth 100000 in
theorem store_any (w : World) : Calls Tryz.prog 36 #[] w fun e w' => (∃ p, e = .returned (.slice p 4 4) ∧ Kys w' (.slice p 4 4) storeK) ∧ Below w.heap.size w w' := by
  have Hb : Hid (Below w.heap.size w (w.alloc (.cells #[.string ⟨#[115, 116, 111, 114, 101, 46, 98, 108, 111, 99, 107, 115]⟩, .int .i64 2, .string ⟨#[54, 52]⟩, .int .i64 8, .int .i64 4096, .string ⟨#[98]⟩, .string ⟨#[115, 116, 111, 114, 101, 46, 99, 97, 99, 104, 101]⟩, .int .i64 3, .string ⟨#[52, 109]⟩, .int .i64 0, .int .i64 1073741824, .string ⟨#[99]⟩, .string ⟨#[115, 116, 111, 114, 101, 46, 100, 105, 114]⟩, .int .i64 5, .string ⟨#[47, 118, 97, 114, 47, 116, 105, 110, 100, 101, 114]⟩, .int .i64 0, .int .i64 0, .string ⟨#[100]⟩, .string ⟨#[115, 116, 111, 114, 101, 46, 112, 97, 103, 101]⟩, .int .i64 3, .string ⟨#[52, 107]⟩, .int .i64 512, .int .i64 65536, .string ⟨#[]⟩] 62))) := Lib.hid ((Below.refl _ _).alloc (Nat.le_refl _) _)
  have HK : Hid (Kys (w.alloc (.cells #[.string ⟨#[115, 116, 111, 114, 101, 46, 98, 108, 111, 99, 107, 115]⟩, .int .i64 2, .string ⟨#[54, 52]⟩, .int .i64 8, .int .i64 4096, .string ⟨#[98]⟩, .string ⟨#[115, 116, 111, 114, 101, 46, 99, 97, 99, 104, 101]⟩, .int .i64 3, .string ⟨#[52, 109]⟩, .int .i64 0, .int .i64 1073741824, .string ⟨#[99]⟩, .string ⟨#[115, 116, 111, 114, 101, 46, 100, 105, 114]⟩, .int .i64 5, .string ⟨#[47, 118, 97, 114, 47, 116, 105, 110, 100, 101, 114]⟩, .int .i64 0, .int .i64 0, .string ⟨#[100]⟩, .string ⟨#[115, 116, 111, 114, 101, 46, 112, 97, 103, 101]⟩, .int .i64 3, .string ⟨#[52, 107]⟩, .int .i64 512, .int .i64 65536, .string ⟨#[]⟩] 62)) (.slice (some ⟨w.heap.size, 0, none⟩) 4 4) storeK) := Lib.hid (kys_lit (l := storeK) (heap_alloc_new w _) rfl)
  go_enter Tryz.func36, Tryz.ntmps36
  go_wp2_with fail
  go_ret
  exact ⟨⟨_, rfl, HK.out⟩, Hb.out⟩
set_option maxRecDepth 100000 in
theorem boot_any (w : World) : Calls Tryz.prog 37 #[] w fun e w' => (∃ p, e = .returned (.slice p 4 4) ∧ Kys w' (.slice p 4 4) bootK) ∧ Below w.heap.size w w' := by
  have Hb : Hid (Below w.heap.size w (w.alloc (.cells #[.string ⟨#[98, 111, 111, 116, 46, 100, 114, 121]⟩, .int .i64 1, .string ⟨#[102, 97, 108, 115, 101]⟩, .int .i64 0, .int .i64 0, .string ⟨#[110]⟩, .string ⟨#[98, 111, 111, 116, 46, 108, 105, 109, 105, 116]⟩, .int .i64 2, .string ⟨#[48]⟩, .int .i64 0, .int .i64 1024, .string ⟨#[]⟩, .string ⟨#[98, 111, 111, 116, 46, 115, 101, 114, 118, 105, 99, 101, 115]⟩, .int .i64 6, .string ⟨#[108, 111, 103, 44, 110, 101, 116]⟩, .int .i64 0, .int .i64 16, .string ⟨#[115]⟩, .string ⟨#[98, 111, 111, 116, 46, 119, 111, 114, 107, 101, 114, 115]⟩, .int .i64 2, .string ⟨#[48]⟩, .int .i64 0, .int .i64 64, .string ⟨#[119]⟩] 62))) := Lib.hid ((Below.refl _ _).alloc (Nat.le_refl _) _)
  have HK : Hid (Kys (w.alloc (.cells #[.string ⟨#[98, 111, 111, 116, 46, 100, 114, 121]⟩, .int .i64 1, .string ⟨#[102, 97, 108, 115, 101]⟩, .int .i64 0, .int .i64 0, .string ⟨#[110]⟩, .string ⟨#[98, 111, 111, 116, 46, 108, 105, 109, 105, 116]⟩, .int .i64 2, .string ⟨#[48]⟩, .int .i64 0, .int .i64 1024, .string ⟨#[]⟩, .string ⟨#[98, 111, 111, 116, 46, 115, 101, 114, 118, 105, 99, 101, 115]⟩, .int .i64 6, .string ⟨#[108, 111, 103, 44, 110, 101, 116]⟩, .int .i64 0, .int .i64 16, .string ⟨#[115]⟩, .string ⟨#[98, 111, 111, 116, 46, 119, 111, 114, 107, 101, 114, 115]⟩, .int .i64 2, .string ⟨#[48]⟩, .int .i64 0, .int .i64 64, .string ⟨#[119]⟩] 62)) (.slice (some ⟨w.heap.size, 0, none⟩) 4 4) bootK) := Lib.hid (kys_lit (l := bootK) (heap_alloc_new w _) rfl)
  go_enter Tryz.func37, Tryz.ntmps37
  go_wp2_with fail
  go_ret
  exact ⟨⟨_, rfl, HK.out⟩, Hb.out⟩
/-- A row of lists. -/
def Rows4 (w : World) (g : Nat) (ls : List (List Ky)) : Prop := ∃ cs, w.heap[g]? = some (.cells cs 27 (0, 0)) ∧ ∀ (i : Nat) (l : List Ky), ls[i]? = some l → ∃ v, cs[i]? = some v ∧ Kys w v l
theorem Rows4.later {w w' : World} {g : Nat} {ls : List (List Ky)} (h : Rows4 w g ls) (hb : Below w.heap.size w w') : Rows4 w' g ls := by
  obtain ⟨cs, h1, h2⟩ := h
  refine ⟨cs, (hb.block g (lt_of_block h1)).trans h1, fun i l hl => ?_⟩
  obtain ⟨v, hv, hk⟩ := h2 i l hl
  exact ⟨v, hv, hk.later hb⟩
/-- A set may read what lies below it. -/
theorem add_step (S : List Ky) (l : List Ky) (j : Nat) (x : Ky) (h : l[j]? = some x) : addAll S (l.take (j + 1)) = addK (addAll S (l.take j)) x := by
  have e : l.take (j + 1) = l.take j ++ [x] := by
    have hlt : j < l.length := (List.getElem?_eq_some_iff.1 h).1
    rw [List.take_succ_eq_append_getElem hlt]
    rw [List.getElem?_eq_getElem hlt] at h
    rw [Option.some.inj h]
  rw [e, addAll_append]
  rfl
end Go.Proofs.YtpfhhaonfbfheaaGreatDoor.ky
/- Package key: a set of several lists, the standard set. Conditions: the listed variables hold what the program's text lays. -/
namespace Go.Proofs.YtpfhhaonfbfheaaGreatDoor.ky
open Go.ChangeShapes Go.WideShapes Go.ChangeAt Go.RowKit gl va ls

theorem addAll_take (S : List Ky) (lss : List (List Ky)) (i : Nat) (l : List Ky) (h : lss[i]? = some l) : addAll S (lss.take (i + 1)).flatten = addAll (addAll S (lss.take i).flatten) l := by
  have hlt : i < lss.length := (List.getElem?_eq_some_iff.1 h).1
  rw [List.take_succ_eq_append_getElem hlt]
  rw [List.getElem?_eq_getElem hlt] at h
  rw [Option.some.inj h, List.flatten_append, addAll_append]
  simp
set_option maxHeartbeats 4000000 in
set_option maxRecDepth 100000 in
theorem together_any (g n : Nat) (lss : List (List Ky)) (hn : lss.length = n) (hn4 : n ≤ 100) (hlens : ∀ l ∈ lss, l.length ≤ 4294967295) (hok : ∀ l ∈ lss, ∀ x ∈ l, KyOk x) (w : World) (hR : Rows4 w g lss) (hV : Vlo w) :
    Calls Tryz.prog 33 #[.slice (some ⟨g, 0, none⟩) n n] w fun e w' => (∃ b, e = .returned (.pointer (some ⟨b, 0, none⟩)) ∧ SetK w.heap.size w' b (addAll [] lss.flatten)) ∧ Below w.heap.size w w' := by
  have HV := Lib.hid hV
  have HR := Lib.hid hR
  have HNw := Lib.hid (New_any w)
  have hgw : g < w.heap.size := by obtain ⟨_, h1, _⟩ := hR; exact lt_of_block h1
  clear hV hR
  go_enter Tryz.func33, Tryz.ntmps33
  go_wp2_with fail
  refine HNw.out.mono ?_
  rintro e w1 ⟨rfl, hS1, hb1⟩
  have HS1 := Lib.hid hS1
  have Hb1 := Lib.hid hb1
  clear hS1 hb1 HNw
  obtain ⟨b, hb⟩ : ∃ b, b = w.heap.size := ⟨_, rfl⟩
  rw [← hb] at HS1
  rw [← hb]
  have hbw : w.heap.size ≤ b := by omega
  have Hbe := Lib.hid hb
  clear hb
  go_wp2_with fail
  go_loopw [11] (fun i wr => ∃ j : Nat, j ≤ n ∧ i = .int .i64 j ∧ Hid (SetK b wr b (addAll [] (lss.take j).flatten)) ∧ Hid (Below w.heap.size w wr)) (fun i _ => n - (intOf i).toNat)
  case atStart => exact ⟨0, by omega, rfl, HS1, Hb1⟩
  case round =>
    clear HS1 Hb1
    obtain ⟨wo, rfl⟩ : ∃ wo, wo = wr := ⟨_, rfl⟩
    obtain ⟨j, hj, rfl, HS, Hb⟩ := hrel
    by_cases hlt : j < n
    · obtain ⟨l, hl⟩ : ∃ l, lss[j]? = some l := ⟨_, List.getElem?_eq_getElem (by omega)⟩
      have hlm := List.mem_of_getElem? hl
      obtain ⟨cs, hcs, hrow⟩ := HR.out
      obtain ⟨v, hv, hkv⟩ := hrow j l hl
      obtain ⟨p, c, rfl⟩ := hkv.form
      have c0 : wo.cell? ⟨g, j, none⟩ = some (.slice p l.length c) := by rw [cell_in ((Hb.out.block g (lt_of_block hcs)).trans hcs)]; exact hv
      have hgo : g < wo.heap.size := by have := Hb.out.size; omega
      have HKl := Lib.hid hkv
      have HPl := Lib.hid hkv.ptr.2.2
      have hll := hlens l hlm
      have Hokl := Lib.hid (hok l hlm)
      have Hat := Lib.hid (addAll_take [] lss j l hl)
      obtain ⟨S, hS⟩ : ∃ S, addAll [] (lss.take j).flatten = S := ⟨_, rfl⟩
      rw [hS] at HS Hat
      have hwo : w.heap.size ≤ wo.heap.size := Hb.out.size
      clear hl hlm hcs hrow hv hkv hS
      go_wp2_with fail
      go_loopw [17] (fun i wq => ∃ k : Nat, k ≤ l.length ∧ i = .int .i64 k ∧ Hid (SetK b wq b (addAll S (l.take k))) ∧ Hid (Below w.heap.size w wq)) (fun i _ => l.length - (intOf i).toNat)
      case atStart => exact ⟨0, by omega, rfl, HS, Hb⟩
      case round =>
        obtain ⟨wq, rfl⟩ : ∃ wq, wq = wr := ⟨_, rfl⟩
        obtain ⟨k, hk, rfl, HSq, Hbq⟩ := hrel
        by_cases hlt2 : k < l.length
        · obtain ⟨x, hx⟩ : ∃ x, l[k]? = some x := ⟨_, List.getElem?_eq_getElem hlt2⟩
          obtain ⟨bp, op, rfl, hbp⟩ := HPl.out (by omega)
          obtain ⟨k0, k1, k2, k3, k4, k5⟩ := ky_cells (HKl.out.later Hbq.out) hx
          have hbq : bp < wq.heap.size := by have := Hbq.out.size; omega
          have hki : (k : Int) < (l.length : Int) := by omega
          have hk50 : (0 : Int) ≤ (k : Int) := by omega
          have hbqs : b < wq.heap.size := HSq.out.lt
          have Hst := Lib.hid (add_step S l k x hx)
          have HAdd : Hid (∀ W, Below wq.heap.size wq W → Calls Tryz.prog 48 #[.pointer (some ⟨b, 0, none⟩), .agg #[.string (B x.name), .int .i64 x.kind, .string (B x.dflt), .int .i64 x.least, .int .i64 x.most, .string (B x.letter)]] W fun e w' => (∃ er, e = .returned (.int .i64 er)) ∧ SetK b w' b (addAll S (l.take (k + 1))) ∧ Below w.heap.size w w') := Lib.hid fun W hW => by
            have hbW := then_bel Hbq.out hW
            refine (Add_any b b (addAll S (l.take k)) x W (HSq.out.later hW) (Hokl.out x (List.mem_of_getElem? hx)) (by have := hW.size; omega) (HV.out.below hbW (Nat.le_refl _))).mono fun e w' h => ?_
            obtain ⟨h1, h2, h3⟩ := h
            refine ⟨⟨_, h1⟩, by rw [Hst.out]; exact h2, hbW.trans ?_⟩
            rw [← Hbe.out]
            exact h3
          clear hx
          generalize B x.name = nm at *
          generalize B x.dflt = df at *
          generalize B x.letter = lt at *
          generalize x.kind = kk at *
          generalize x.least = le at *
          generalize x.most = mo at *
          go_wp2_with fail
          refine (HAdd.out _ (by repeat (first | exact Below.refl _ _ | refine Below.setCell ?_ (by simp only; omega) _ | refine Below.alloc ?_ (by simp) _))).mono ?_
          rintro e w9 ⟨⟨er, rfl⟩, hs9, hb9⟩
          have Hs9 := Lib.hid hs9
          have Hb9 := Lib.hid hb9
          clear hs9 hb9
          go_wp2_with fail
          go_roundw
          case rel => exact ⟨k + 1, by omega, by go_num, Hs9, Hb9⟩
          case measure => simp [intOf]; omega
        · obtain rfl : k = l.length := by omega
          have HSn : Hid (SetK b wq b (addAll [] (lss.take (j + 1)).flatten)) := Lib.hid (by
            rw [Hat.out]
            have h := HSq.out
            rwa [List.take_of_length_le (Nat.le_refl _)] at h)
          have hd1 : decide ((l.length : Int) < (l.length : Int)) = false := by simp
          go_wp2_with fail
          go_roundw
          case rel => exact ⟨j + 1, by omega, by go_num, HSn, Hbq⟩
          case measure => simp [intOf]; omega
    · obtain rfl : j = n := by omega
      have hd1 : decide ((j : Int) < (j : Int)) = false := by simp
      go_wp2_with fail
      go_ret
      refine ⟨⟨b, rfl, ?_⟩, Hb.out⟩
      have h := HS.out
      rw [List.take_of_length_le (by omega)] at h
      rw [← Hbe.out]
      exact h
theorem four {w : World} {g : Nat} {p0 p1 p2 p3 : Option Addr} (h : w.heap[g]? = some (.cells #[.slice p0 3 3, .slice p1 5 5, .slice p2 4 4, .slice p3 4 4] 27 (0, 0))) (h0 : Kys w (.slice p0 3 3) logK) (h1 : Kys w (.slice p1 5 5) netK) (h2 : Kys w (.slice p2 4 4) storeK) (h3 : Kys w (.slice p3 4 4) bootK) : Rows4 w g [logK, netK, storeK, bootK] := by
  refine ⟨_, h, fun i l hl => ?_⟩
  match i, hl with
  | 0, hl => cases hl; exact ⟨_, rfl, h0⟩
  | 1, hl => cases hl; exact ⟨_, rfl, h1⟩
  | 2, hl => cases hl; exact ⟨_, rfl, h2⟩
  | 3, hl => cases hl; exact ⟨_, rfl, h3⟩
set_option maxHeartbeats 1000000 in
set_option maxRecDepth 100000 in
/-- The standard set, at any time. -/
theorem Standard_any (w : World) (hV : Vlo w) :
    Calls Tryz.prog 8 #[] w fun e w' => (∃ b, e = .returned (.pointer (some ⟨b, 0, none⟩)) ∧ SetK w.heap.size w' b stdK) ∧ Below w.heap.size w w' := by
  have HV := Lib.hid hV
  clear hV
  go_enter Tryz.func8, Tryz.ntmps8
  go_wp2_with fail
  refine (log_any w).mono ?_
  rintro e w1 ⟨⟨p1, rfl, h1⟩, hb1⟩
  have H1 := Lib.hid h1
  have Hb1 := Lib.hid hb1
  clear h1 hb1
  go_wp2_with fail
  refine (net_any w1).mono ?_
  rintro e w2 ⟨⟨p2, rfl, h2⟩, hb2⟩
  have H12 := Lib.hid (H1.out.later hb2)
  have H2 := Lib.hid h2
  have Hb2 := Lib.hid (then_bel Hb1.out hb2)
  clear h2 hb2
  go_wp2_with fail
  refine (store_any w2).mono ?_
  rintro e w3 ⟨⟨p3, rfl, h3⟩, hb3⟩
  have H13 := Lib.hid (H12.out.later hb3)
  have H23 := Lib.hid (H2.out.later hb3)
  have H3 := Lib.hid h3
  have Hb3 := Lib.hid (then_bel Hb2.out hb3)
  clear h3 hb3
  go_wp2_with fail
  refine (boot_any w3).mono ?_
  rintro e w4 ⟨⟨p4, rfl, h4⟩, hb4⟩
  have H14 := Lib.hid (H13.out.later hb4)
  have H24 := Lib.hid (H23.out.later hb4)
  have H34 := Lib.hid (H3.out.later hb4)
  have H4 := Lib.hid h4
  have Hb4 := Lib.hid (then_bel Hb3.out hb4)
  clear h4 hb4
  obtain ⟨w5, hw5⟩ : ∃ w5, w5 = w4.alloc (.cells #[.slice p1 3 3, .slice p2 5 5, .slice p3 4 4, .slice p4 4 4] 27) := ⟨_, rfl⟩
  have hb45 : Below w4.heap.size w4 w5 := by rw [hw5]; exact (Below.refl _ _).alloc (Nat.le_refl _) _
  have hrow : Rows4 w5 w4.heap.size [logK, netK, storeK, bootK] := four (by rw [hw5]; exact heap_alloc_new w4 _) (H14.out.later hb45) (H24.out.later hb45) (H34.out.later hb45) (H4.out.later hb45)
  have Hb5 := Lib.hid (then_bel Hb4.out hb45)
  have HT := Lib.hid (together_any w4.heap.size 4 [logK, netK, storeK, bootK] rfl (by decide) (by decide) (fun l hl x hx => std_ok x (by
    simp only [List.mem_cons, List.not_mem_nil, or_false] at hl
    unfold stdK
    rcases hl with rfl | rfl | rfl | rfl <;> simp [hx])) w5 hrow (HV.out.below Hb5.out (Nat.le_refl _)))
  have Hw5 := Lib.hid hw5
  clear hb45 hrow hw5
  go_wp2_with fail
  rw [← Hw5.out]
  refine HT.out.mono ?_
  rintro e w6 ⟨⟨b, rfl, hs⟩, hb6⟩
  have Hs := Lib.hid hs
  have Hb6 := Lib.hid (then_bel Hb5.out hb6)
  have Hz := Lib.hid Hb5.out.size
  clear hs hb6
  go_wp2_with fail
  go_ret
  refine ⟨⟨b, rfl, ?_⟩, Hb6.out⟩
  have h := Hs.out
  rw [show [logK, netK, storeK, bootK].flatten = logK ++ (netK ++ (storeK ++ bootK)) by simp, std_all] at h
  exact ⟨by have := h.lo; have := Hz.out; omega, h.len, h.asc, h.ok, by
    obtain ⟨v, hv, hB⟩ := h.blk
    exact ⟨v, hv, hB.mono Hz.out⟩⟩
end Go.Proofs.YtpfhhaonfbfheaaGreatDoor.ky
/- tinderboxlaw08.awake, addsUp. Conditions: the listed variables hold what the program's text lays. -/
namespace Go.Proofs.YtpfhhaonfbfheaaGreatDoor.en
open Go.ChangeShapes Go.WideShapes Go.ChangeAt Go.RowKit gl va ls ky

def stdN : List (List UInt8) := stdK.map (·.name)
theorem std_names : ∀ x ∈ stdK, nameL x.name = true := by decide +kernel
def pairs0 : List (List UInt8) := [[72, 79, 77, 69, 61, 47, 114, 111, 111, 116], [78, 69, 84, 95, 80, 79, 82, 84, 61, 57, 48, 48, 49], [80, 79, 82, 84, 61, 49], [78, 69, 84, 95, 80, 79, 82, 84, 61]]
theorem parse0 : parseL stdN 0 pairs0 [] = ([⟨[110, 101, 116, 46, 112, 111, 114, 116], [57, 48, 48, 49], 1⟩, ⟨[110, 101, 116, 46, 112, 111, 114, 116], [], 3⟩], 0, 0) := by kernel_rfl
def pairs1 : List (List UInt8) := [[65, 61, 49], [78, 69, 84, 95, 80, 79, 82, 84, 83, 61, 49]]
theorem parse1 : parseL stdN 0 pairs1 [] = ([], 81, 1) := by kernel_rfl
def pairs2 : List (List UInt8) := [[65, 61, 49], [66]]
theorem parse2 : parseL stdN 0 pairs2 [] = ([], 80, 1) := by kernel_rfl
theorem nm1 : nmL [110, 101, 116, 46, 112, 111, 114, 116] = [78, 69, 84, 95, 80, 79, 82, 84] ∧ nmE [110, 101, 116, 46, 112, 111, 114, 116] = 0 := by decide +kernel
theorem nm2 : nmL [78, 101, 116] = [] ∧ nmE [78, 101, 116] = 1 := by decide +kernel
set_option maxRecDepth 100000 in
theorem Parse_nil (w : World) : Calls Tryz.prog 27 #[.pointer none, .slice none 0 0] w fun e w' => e = .returned (.tuple #[.slice none 0 0, .int .i64 1, .int .i64 0]) ∧ w' = w := by
  go_enter Tryz.func27, Tryz.ntmps27
  go_wp2_with fail
  go_ret3
  exact ⟨rfl, rfl⟩
set_option maxRecDepth 100000 in
theorem sumUp_any (n m : Int) (hn : 0 ≤ n) (hm : 0 ≤ m) (w : World) : Calls Tryz.prog 19 #[.int .i64 n, .int .i64 m] w fun e w' => e = .returned (.int .i64 (if 2147483647 < n ∨ 2147483647 < m then 2147483648 else n + m)) ∧ w' = w := by
  by_cases h1 : 2147483647 < n
  · rw [if_pos (.inl h1)]
    go_enter Tryz.func19, Tryz.ntmps19
    go_wp2_with fail
    go_ret
    exact ⟨rfl, rfl⟩
  · by_cases h2 : 2147483647 < m
    · rw [if_pos (.inr h2)]
      go_enter Tryz.func19, Tryz.ntmps19
      go_wp2_with fail
      go_ret
      exact ⟨rfl, rfl⟩
    · rw [if_neg (by omega)]
      have h3 : n ≤ 2147483647 := by omega
      have h4 : m ≤ 2147483647 := by omega
      go_enter Tryz.func19, Tryz.ntmps19
      go_wp2_with fail
      go_ret
      exact ⟨rfl, rfl⟩
set_option maxHeartbeats 4000000 in
set_option maxRecDepth 100000 in
theorem awoke_any (w : World) (hV : Vlo w) : Calls Tryz.prog 20 #[] w fun e w' => e = .returned (.bool true) ∧ Below w.heap.size w w' := by
  have HG := Lib.hid fun W (h : Below w.heap.size w W) => (hV.below h (Nat.le_refl _)).glo
  have HSd := Lib.hid fun W (h : Below w.heap.size w W) => Standard_any W (hV.below h (Nat.le_refl _))
  have HN1 : Hid (∀ W, Below w.heap.size w W → Calls Tryz.prog 21 #[.string ⟨#[110, 101, 116, 46, 112, 111, 114, 116]⟩] W fun e w' => e = .returned (.tuple #[.string ⟨#[78, 69, 84, 95, 80, 79, 82, 84]⟩, .int .i64 0]) ∧ Below W.heap.size W w') := Lib.hid fun W hW => by
    have h := Name_any [110, 101, 116, 46, 112, 111, 114, 116] (by decide) W (HG.out W hW)
    rw [nm1.1, nm1.2] at h
    exact h
  have HN2 : Hid (∀ W, Below w.heap.size w W → Calls Tryz.prog 21 #[.string ⟨#[78, 101, 116]⟩] W fun e w' => e = .returned (.tuple #[.string ⟨#[]⟩, .int .i64 1]) ∧ Below W.heap.size W w') := Lib.hid fun W hW => by
    have h := Name_any [78, 101, 116] (by decide) W (HG.out W hW)
    rw [nm2.1, nm2.2] at h
    exact h
  have HPa : Hid (∀ (W : World) (M b g : Nat) (cs : Array Value) (l : List (List UInt8)) (n : Nat) (o : List Gv) (er : Int) (k : Nat), Below w.heap.size w W → SetK M W b stdK → W.heap[g]? = some (.cells cs 9 (0, 0)) → cs.toList = rw.flat stC l → l.length = n → n ≤ 100 → (∀ x ∈ l, x.length ≤ 2147483647) → parseL stdN 0 l [] = (o, er, k) → Calls Tryz.prog 27 #[.pointer (some ⟨b, 0, none⟩), .slice (some ⟨g, 0, none⟩) n n] W fun e w' => (∃ v, e = .returned (.tuple #[v, .int .i64 er, .int .i64 (k : Nat)]) ∧ NewGvs W.heap.size w' v o) ∧ Below W.heap.size W w') := Lib.hid fun W M b g cs l n o er k hW hS hg hc hn hn1 hl hp => by
    have hP := rw.rw_lit stC_len hg hc
    rw [hn] at hP
    have h := Parse_any M b stdK _ n n l hn (by omega) hl std_names W hS hP (HG.out W hW)
    rw [show stdK.map (·.name) = stdN from rfl, hp] at h
    exact h
  have heq := eql_gv
  have HPn := Lib.hid Parse_nil
  clear hV HG
  go_enter Tryz.func20, Tryz.ntmps20
  go_wp2_with fail
  refine (HN1.out _ (Below.refl _ _)).mono ?_
  rintro e w1 ⟨rfl, hb1⟩
  have Hb1 := Lib.hid hb1
  clear hb1
  go_wp2_with fail
  refine (HN2.out _ Hb1.out).mono ?_
  rintro e w2 ⟨rfl, hb2⟩
  have Hb2 := Lib.hid (then_bel Hb1.out Hb1.out.size hb2)
  clear hb2
  go_wp2_with fail
  refine (HSd.out _ Hb2.out).mono ?_
  rintro e w3 ⟨⟨b, rfl, hS3⟩, hb3⟩
  have Hb3 := Lib.hid (then_bel Hb2.out Hb2.out.size hb3)
  have HS3 := Lib.hid hS3
  clear hS3 hb3
  obtain ⟨x0, hx0⟩ : ∃ x0, x0 = w3.alloc (.cells #[.string ⟨#[72, 79, 77, 69, 61, 47, 114, 111, 111, 116]⟩, .string ⟨#[78, 69, 84, 95, 80, 79, 82, 84, 61, 57, 48, 48, 49]⟩, .string ⟨#[80, 79, 82, 84, 61, 49]⟩, .string ⟨#[78, 69, 84, 95, 80, 79, 82, 84, 61]⟩] 9) := ⟨_, rfl⟩
  have Hk0 : Hid (x0.heap[w3.heap.size]? = some (.cells #[.string ⟨#[72, 79, 77, 69, 61, 47, 114, 111, 111, 116]⟩, .string ⟨#[78, 69, 84, 95, 80, 79, 82, 84, 61, 57, 48, 48, 49]⟩, .string ⟨#[80, 79, 82, 84, 61, 49]⟩, .string ⟨#[78, 69, 84, 95, 80, 79, 82, 84, 61]⟩] 9 (0, 0))) := Lib.hid (by rw [hx0]; exact heap_alloc_new w3 _)
  have hbx0 : Below w3.heap.size w3 x0 := by rw [hx0]; exact (Below.refl _ _).alloc (Nat.le_refl _) _
  have Hbx0 := Lib.hid (then_bel Hb3.out Hb3.out.size hbx0)
  have HSx0 := Lib.hid (HS3.out.later hbx0)
  have Hox0 := Lib.hid hbx0
  clear hbx0
  go_wp2_with fail
  rw [← hx0]
  refine (HPa.out x0 _ b _ _ pairs0 4 _ _ _ Hbx0.out HSx0.out Hk0.out rfl rfl (by decide) (by decide) parse0).mono ?_
  rintro e w4 ⟨⟨v0, rfl, hv0⟩, hb4⟩
  have Hb4 := Lib.hid (then_bel Hbx0.out Hbx0.out.size hb4)
  have HS4 := Lib.hid (HSx0.out.later hb4)
  have Hv0 := Lib.hid hv0
  clear hv0 hb4 hx0
  obtain ⟨x1, hx1⟩ : ∃ x1, x1 = w4.alloc (.cells #[.string ⟨#[65, 61, 49]⟩, .string ⟨#[78, 69, 84, 95, 80, 79, 82, 84, 83, 61, 49]⟩] 9) := ⟨_, rfl⟩
  have Hk1 : Hid (x1.heap[w4.heap.size]? = some (.cells #[.string ⟨#[65, 61, 49]⟩, .string ⟨#[78, 69, 84, 95, 80, 79, 82, 84, 83, 61, 49]⟩] 9 (0, 0))) := Lib.hid (by rw [hx1]; exact heap_alloc_new w4 _)
  have hbx1 : Below w4.heap.size w4 x1 := by rw [hx1]; exact (Below.refl _ _).alloc (Nat.le_refl _) _
  have Hbx1 := Lib.hid (then_bel Hb4.out Hb4.out.size hbx1)
  have HSx1 := Lib.hid (HS4.out.later hbx1)
  have Hox1 := Lib.hid hbx1
  clear hbx1
  go_wp2_with fail
  rw [← hx1]
  refine (HPa.out x1 _ b _ _ pairs1 2 _ _ _ Hbx1.out HSx1.out Hk1.out rfl rfl (by decide) (by decide) parse1).mono ?_
  rintro e w5 ⟨⟨v1, rfl, hv1⟩, hb5⟩
  have Hb5 := Lib.hid (then_bel Hbx1.out Hbx1.out.size hb5)
  have HS5 := Lib.hid (HSx1.out.later hb5)
  have Hv0x := Lib.hid ((Hv0.out.later Hox1.out).later hb5)
  clear hv1 hb5 hx1
  obtain ⟨x2, hx2⟩ : ∃ x2, x2 = w5.alloc (.cells #[.string ⟨#[65, 61, 49]⟩, .string ⟨#[66]⟩] 9) := ⟨_, rfl⟩
  have Hk2 : Hid (x2.heap[w5.heap.size]? = some (.cells #[.string ⟨#[65, 61, 49]⟩, .string ⟨#[66]⟩] 9 (0, 0))) := Lib.hid (by rw [hx2]; exact heap_alloc_new w5 _)
  have hbx2 : Below w5.heap.size w5 x2 := by rw [hx2]; exact (Below.refl _ _).alloc (Nat.le_refl _) _
  have Hbx2 := Lib.hid (then_bel Hb5.out Hb5.out.size hbx2)
  have HSx2 := Lib.hid (HS5.out.later hbx2)
  have Hox2 := Lib.hid hbx2
  clear hbx2
  go_wp2_with fail
  rw [← hx2]
  refine (HPa.out x2 _ b _ _ pairs2 2 _ _ _ Hbx2.out HSx2.out Hk2.out rfl rfl (by decide) (by decide) parse2).mono ?_
  rintro e w6 ⟨⟨v2, rfl, hv2⟩, hb6⟩
  have Hb6 := Lib.hid (then_bel Hbx2.out Hbx2.out.size hb6)
  have HS6 := Lib.hid (HSx2.out.later hb6)
  have Hv0xx := Lib.hid ((Hv0x.out.later Hox2.out).later hb6)
  clear hv2 hb6 hx2
  obtain ⟨g, c, cs, hv, hc2, _, hblk, hcs, hat⟩ : ∃ g c cs, v0 = .slice (some ⟨g, 0, none⟩) 2 c ∧ 2 ≤ c ∧ 0 ≤ g ∧ w6.heap[g]? = some (.cells cs 35 (0, 0)) ∧ c * 3 ≤ cs.size ∧ At cs 0 (rw.flat gvC [⟨[110, 101, 116, 46, 112, 111, 114, 116], [57, 48, 48, 49], 1⟩, ⟨[110, 101, 116, 46, 112, 111, 114, 116], [], 3⟩]) := by
    rcases Hv0xx.out with ⟨h, _⟩ | ⟨g, c, cs, h1, h2, h3, h4, h5, h6⟩
    · cases h
    · exact ⟨g, c, cs, h1, h2, Nat.zero_le _, h4, h5, h6⟩
  subst hv
  have d0 : w6.cell? ⟨g, 0, none⟩ = some (.string ⟨#[110, 101, 116, 46, 112, 111, 114, 116]⟩) := by rw [cell_in hblk]; exact hat 0 _ rfl
  have d1 : w6.cell? ⟨g, 1, none⟩ = some (.string ⟨#[57, 48, 48, 49]⟩) := by rw [cell_in hblk]; exact hat 1 _ rfl
  have d2 : w6.cell? ⟨g, 2, none⟩ = some (.int .i64 1) := by rw [cell_in hblk]; exact hat 2 _ rfl
  have d3 : w6.cell? ⟨g, 3, none⟩ = some (.string ⟨#[110, 101, 116, 46, 112, 111, 114, 116]⟩) := by rw [cell_in hblk]; exact hat 3 _ rfl
  have d4 : w6.cell? ⟨g, 4, none⟩ = some (.string ⟨#[]⟩) := by rw [cell_in hblk]; exact hat 4 _ rfl
  have d5 : w6.cell? ⟨g, 5, none⟩ = some (.int .i64 3) := by rw [cell_in hblk]; exact hat 5 _ rfl
  have hgl : g < w6.heap.size := lt_of_block hblk
  clear hblk hcs hat
  go_wp2_with fail
  refine (HPn.out _).mono ?_
  rintro e w7 ⟨rfl, rfl⟩
  go_wp2_with fail
  go_ret
  exact ⟨rfl, Hb6.out⟩
end Go.Proofs.YtpfhhaonfbfheaaGreatDoor.en
/- EnvNames returns true: any texts. Conditions: the listed variables hold what the program's text lays. -/
namespace Go.Proofs.YtpfhhaonfbfheaaGreatDoor.en
open Go.ChangeShapes Go.WideShapes Go.ChangeAt Go.RowKit gl va ls ky

set_option maxHeartbeats 4000000 in
set_option maxRecDepth 100000 in
theorem names_walk (s t A C : ByteArray) (e1 e2 : Int) (w : World) (hsum : s.size + t.size ≤ 2147483647) (HAw : Hid (∀ W, Below w.heap.size w W → Calls Tryz.prog 20 #[] W fun e w' => e = .returned (.bool true) ∧ Below W.heap.size W w'))
    (H1 : Hid (∀ W, Below w.heap.size w W → Calls Tryz.prog 21 #[.string s] W fun e w' => e = .returned (.tuple #[.string A, .int .i64 e1]) ∧ Below W.heap.size W w'))
    (H2 : Hid (∀ W, Below w.heap.size w W → Calls Tryz.prog 22 #[.string s] W fun e w' => e = .returned (.tuple #[.string A, .int .i64 e1]) ∧ Below W.heap.size W w'))
    (H3 : Hid (∀ W, Below w.heap.size w W → Calls Tryz.prog 21 #[.string t] W fun e w' => e = .returned (.tuple #[.string C, .int .i64 e2]) ∧ Below W.heap.size W w'))
    (hcase : (e1 = 1 ∧ (e2 = 0 ∨ e2 = 1)) ∨ (e1 = 0 ∧ e2 = 1) ∨ (e1 = 0 ∧ e2 = 0 ∧ ((A.toList == C.toList) = false ∨ ((A.toList == C.toList) = true ∧ (s.toList == t.toList) = true)))) :
    Calls Tryz.prog 5 #[.string s, .string t] w fun e w' => e = .returned (.bool true) ∧ Below w.heap.size w w' := by
  have HU : Hid (∀ W, Calls Tryz.prog 19 #[.int .i64 (s.size : Nat), .int .i64 (t.size : Nat)] W fun e w' => e = .returned (.int .i64 ((s.size : Int) + (t.size : Int))) ∧ w' = W) := Lib.hid fun W => by
    have h := sumUp_any (s.size : Int) (t.size : Int) (by omega) (by omega) W
    rw [if_neg (by omega)] at h
    exact h
  have hs1 : ((s.size : Int) + (t.size : Int)) ≤ 2147483647 := by omega
  have hb : A.toList == A.toList := by simp
  clear hsum
  rcases hcase with ⟨rfl, rfl | rfl⟩ | ⟨rfl, rfl⟩ | ⟨rfl, rfl, h | ⟨h, h2⟩⟩
  all_goals
    go_enter Tryz.func5, Tryz.ntmps5
    go_wp2_with fail
    refine (HU.out _).mono ?_
    rintro e w0 ⟨rfl, rfl⟩
    go_wp2_with fail
    refine (HAw.out _ (Below.refl _ _)).mono ?_
    rintro e w1 ⟨rfl, hb1⟩
    have Hb1 := Lib.hid hb1
    clear hb1
    go_wp2_with fail
    refine (H1.out _ Hb1.out).mono ?_
    rintro e w2 ⟨rfl, hb2⟩
    have Hb2 := Lib.hid (then_bel Hb1.out Hb1.out.size hb2)
    clear hb2
    go_wp2_with fail
    refine (H2.out _ Hb2.out).mono ?_
    rintro e w3 ⟨rfl, hb3⟩
    have Hb3 := Lib.hid (then_bel Hb2.out Hb2.out.size hb3)
    clear hb3
    go_wp2_with fail
    refine (H3.out _ Hb3.out).mono ?_
    rintro e w4 ⟨rfl, hb4⟩
    have Hb4 := Lib.hid (then_bel Hb3.out Hb3.out.size hb4)
    clear hb4
    go_wp2_with fail
    go_ret
    exact ⟨rfl, Hb4.out⟩
set_option maxRecDepth 100000 in
theorem names_big (s t : ByteArray) (w : World) (hbig : 2147483647 < s.size + t.size) :
    Calls Tryz.prog 5 #[.string s, .string t] w fun e w' => e = .returned (.bool true) ∧ Below w.heap.size w w' := by
  obtain ⟨z, hz, HU⟩ : ∃ z : Int, 2147483647 < z ∧ Hid (∀ W, Calls Tryz.prog 19 #[.int .i64 (s.size : Nat), .int .i64 (t.size : Nat)] W fun e w' => e = .returned (.int .i64 z) ∧ w' = W) :=
    ⟨if 2147483647 < (s.size : Int) ∨ 2147483647 < (t.size : Int) then 2147483648 else (s.size : Int) + (t.size : Int), by split <;> omega, Lib.hid fun W => sumUp_any (s.size : Int) (t.size : Int) (by omega) (by omega) W⟩
  clear hbig
  go_enter Tryz.func5, Tryz.ntmps5
  go_wp2_with fail
  refine (HU.out _).mono ?_
  rintro e w0 ⟨rfl, rfl⟩
  go_wp2_with fail
  go_ret
  exact ⟨rfl, Below.refl _ _⟩
theorem nm_ways (l : List UInt8) : (nameL l = true ∧ nmE l = 0 ∧ nmL l = greatL l) ∨ (nameL l = false ∧ nmE l = 1) := by
  cases h : nameL l with
  | true => exact .inl ⟨rfl, nmE_yes h, nmL_yes h⟩
  | false => exact .inr ⟨rfl, nmE_no h⟩
theorem envNames_any (s t : ByteArray) (w : World) (hV : Vlo w) :
    Calls Tryz.prog 5 #[.string s, .string t] w fun e w' => e = .returned (.bool true) ∧ Below w.heap.size w w' := by
  by_cases hbig : 2147483647 < s.size + t.size
  · exact names_big s t w hbig
  · have hls : s.data.toList.length ≤ 2147483647 := by
      have : s.data.toList.length = s.size := Array.length_toList
      omega
    have hlt : t.data.toList.length ≤ 2147483647 := by
      have : t.data.toList.length = t.size := Array.length_toList
      omega
    have h1 := fun W hW => Name_any s.data.toList hls W ((hV.below hW (Nat.le_refl _)).glo)
    have h2 := fun (W : World) (_ : Below w.heap.size w W) => refName_any s.data.toList hls W
    have h3 := fun W hW => Name_any t.data.toList hlt W ((hV.below hW (Nat.le_refl _)).glo)
    rw [B_of] at h1 h2 h3
    refine names_walk s t _ _ _ _ w (by omega) (Lib.hid fun W hW => awoke_any W (hV.below hW (Nat.le_refl _))) (Lib.hid h1) (Lib.hid h2) (Lib.hid h3) ?_
    rw [ByteArray.toList_eq, ByteArray.toList_eq, ByteArray.toList_eq, ByteArray.toList_eq, B_list, B_list]
    rcases nm_ways s.data.toList with ⟨a1, a2, a3⟩ | ⟨a1, a2⟩
    · rcases nm_ways t.data.toList with ⟨b1, b2, b3⟩ | ⟨b1, b2⟩
      · refine .inr (.inr ⟨a2, b2, ?_⟩)
        by_cases he : nmL s.data.toList = nmL t.data.toList
        · refine .inr ⟨by rw [he]; simp, ?_⟩
          rw [a3, b3] at he
          rw [great_inj a1 b1 he]
          simp
        · exact .inl (by simpa using he)
      · exact .inr (.inl ⟨a2, b2⟩)
    · rcases nm_ways t.data.toList with ⟨b1, b2, b3⟩ | ⟨b1, b2⟩
      · exact .inl ⟨a2, .inl b2⟩
      · exact .inl ⟨a2, .inr b2⟩
end Go.Proofs.YtpfhhaonfbfheaaGreatDoor.en
/- The document's first, begins and Parse of package env. Conditions: the names and the pairs lie in memory as their lists; texts of at most 2147483647 bytes, at most 4294967295 names and 2147483647 pairs. -/
namespace Go.Proofs.YtpfhhaonfbfheaaGreatDoor.en
open Go.ChangeShapes Go.WideShapes Go.ChangeAt Go.RowKit gl va ls ky

theorem bef_at {c : UInt8} : ∀ {l : List UInt8} {k : Nat}, (∀ j, j < k → l[j]? ≠ some c) → l[k]? = some c → bef c l = l.take k
  | [], k, _, h => by simp at h
  | d :: r, 0, _, h => by
    simp at h
    simp [bef, h]
  | d :: r, k + 1, hn, h => by
    have hd : d ≠ c := fun e => hn 0 (by omega) (by simp [e])
    have ih := bef_at (c := c) (l := r) (k := k) (fun j hj => by have := hn (j + 1) (by omega); simpa using this) (by simpa using h)
    unfold bef at ih ⊢
    rw [List.takeWhile_cons_of_pos (by simp [hd]), ih]
    rfl
theorem bef_len (c : UInt8) (l : List UInt8) : (bef c l).length ≤ l.length := (List.takeWhile_prefix _).length_le
theorem bef_aft {c : UInt8} : ∀ {l : List UInt8}, c ∈ l → l = bef c l ++ c :: aft c l
  | [], h => by cases h
  | d :: r, h => by
    by_cases hd : d = c
    · subst hd
      simp [bef, aft]
    · have hm : c ∈ r := by simpa [Ne.symm hd] using h
      have ih := bef_aft hm
      have hb : bef c (d :: r) = d :: bef c r := by unfold bef; simp [hd]
      have ha : aft c (d :: r) = aft c r := by unfold aft; simp [hd]
      rw [hb, ha, List.cons_append, ← ih]
theorem aft_drop {c : UInt8} {l : List UInt8} (h : c ∈ l) : l.drop ((bef c l).length + 1) = aft c l ∧ (bef c l).length + 1 ≤ l.length := by
  have e := bef_aft h
  have el := congrArg List.length e
  simp at el
  refine ⟨?_, by omega⟩
  have h2 : l = (bef c l ++ [c]) ++ aft c l := by rw [List.append_assoc]; exact e
  have h3 : (bef c l).length + 1 = (bef c l ++ [c]).length := by simp
  rw [h3]
  calc l.drop (bef c l ++ [c]).length = ((bef c l ++ [c]) ++ aft c l).drop (bef c l ++ [c]).length := by rw [← h2]
    _ = aft c l := List.drop_left
theorem size_list (s : ByteArray) : s.data.toList.length = s.size := Array.length_toList
set_option maxHeartbeats 1000000 in
set_option maxRecDepth 100000 in
theorem first_any (s : ByteArray) (c : UInt8) (hs : s.size ≤ 2147483647) (w : World) :
    Calls Tryz.prog 59 #[.string s, .int .u8 (c.toNat : Int)] w fun e w' => e = .returned (.tuple #[.string (B (bef c s.data.toList)), .bool (decide (c ∈ s.data.toList))]) ∧ w = w' := by
  obtain ⟨rt, hrt⟩ : ∃ rt, rt = B (bef c s.data.toList) := ⟨_, rfl⟩
  obtain ⟨rb, hrb⟩ : ∃ rb, rb = decide (c ∈ s.data.toList) := ⟨_, rfl⟩
  rw [← hrt, ← hrb]
  have Hrt := Lib.hid hrt
  have Hrb := Lib.hid hrb
  clear hrt hrb
  go_enter Tryz.func59, Tryz.ntmps59
  go_wp2_with fail
  go_loop [6] (fun i => ∃ k : Nat, k ≤ s.size ∧ i = .int .i64 k ∧ Hid (∀ j, j < k → s.data.toList[j]? ≠ some c)) (fun i => s.size - (intOf i).toNat)
  case atStart => exact ⟨0, by omega, rfl, Lib.hid fun j hj => by omega⟩
  case round =>
    obtain ⟨k, hk, rfl, HN⟩ := hrel
    by_cases hlt : k < s.size
    · obtain ⟨b, hbl, hbi, hb0, hb1⟩ := byteAt s k hlt
      by_cases hbc : b = c
      · have Hr : Hid (rt = s.extract 0 k) := Lib.hid (by
          rw [Hrt.out]
          rw [bef_at HN.out (by rw [hbl, hbc])]
          apply ByteArray.ext
          apply Array.toList_inj.1
          rw [extract_toList]
          simp)
        have Hm : Hid (rb = true) := Lib.hid (by
          rw [Hrb.out]
          rw [decide_eq_true_eq, ← hbc]
          exact List.mem_of_getElem? hbl)
        have he : ((b.toNat : Int) == (c.toNat : Int)) = true := by rw [hbc]; simp
        have he2 : (b.toNat : Int) = (c.toNat : Int) := by rw [hbc]
        clear hbl hbc
        go_wp2_with fail
        go_ret2
        exact ⟨by rw [Hr.out, Hm.out]; rfl, rfl⟩
      · have HN2 : Hid (∀ j, j < k + 1 → s.data.toList[j]? ≠ some c) := Lib.hid fun j hj => by
          rcases Nat.lt_or_ge j k with h | h
          · exact HN.out j h
          · obtain rfl : j = k := by omega
            rw [hbl]
            exact fun e => hbc (Option.some.inj e)
        have he : ((b.toNat : Int) == (c.toNat : Int)) = false := by
          rw [beq_eq_false_iff_ne]
          intro e
          exact hbc (UInt8.toNat_inj.1 (by omega))
        have he2 : ¬ (b.toNat : Int) = (c.toNat : Int) := by simpa using he
        clear hbl hbc
        go_wp2_with fail
        go_round
        case rel => exact ⟨k + 1, by omega, by go_num, HN2⟩
        case measure => simp [intOf]; omega
    · obtain rfl : k = s.size := by omega
      have hno : c ∉ s.data.toList := fun hm => by
        obtain ⟨j, hj⟩ := List.mem_iff_getElem?.1 hm
        have := ls.lt_get hj
        rw [size_list] at this
        exact HN.out j this hj
      have Hr : Hid (rt = s) := Lib.hid (by rw [Hrt.out, bef_all hno, B_of])
      have Hm : Hid (rb = false) := Lib.hid (by rw [Hrb.out, decide_eq_false_iff_not]; exact hno)
      clear hno
      go_wp2_with fail
      go_ret2
      exact ⟨by rw [Hr.out, Hm.out]; rfl, rfl⟩
set_option maxRecDepth 100000 in
theorem refBegins_any (s t : ByteArray) (_hs : s.size ≤ 2147483647) (ht : t.size ≤ 2147483647) (w : World) :
    Calls Tryz.prog 60 #[.string s, .string t] w fun e w' => e = .returned (.bool (t.data.toList.isPrefixOf s.data.toList)) ∧ w = w' := by
  by_cases hl : t.size ≤ s.size
  · have Hp : Hid (t.data.toList.isPrefixOf s.data.toList = ((s.extract 0 t.size).toList == t.toList)) := Lib.hid (by
      rw [ByteArray.toList_eq, ByteArray.toList_eq, extract_toList, ← size_list t]
      rw [Nat.sub_zero, List.drop_zero]
      rw [Bool.eq_iff_iff, List.isPrefixOf_iff_prefix, beq_iff_eq]
      constructor
      · intro h
        obtain ⟨r, hr⟩ := h
        rw [← hr]
        simp
      · intro h
        rw [← h]
        exact List.take_prefix _ _)
    rw [Hp.out]
    have hl1 : (t.size : Int) ≤ (s.size : Int) := by omega
    have hl0 : (0 : Int) ≤ (t.size : Int) := by omega
    clear hl
    generalize hz : ((s.extract 0 t.size).toList == t.toList) = z
    go_enter Tryz.func60, Tryz.ntmps60
    go_wp2_with fail
    go_ret
    exact ⟨rfl, rfl⟩
  · have Hp : Hid (t.data.toList.isPrefixOf s.data.toList = false) := Lib.hid (by
      rw [Bool.eq_false_iff]
      intro h
      have := (List.isPrefixOf_iff_prefix.1 h).length_le
      rw [size_list, size_list] at this
      omega)
    rw [Hp.out]
    have hl1 : (s.size : Int) < (t.size : Int) := by omega
    clear hl
    go_enter Tryz.func60, Tryz.ntmps60
    go_wp2_with fail
    go_ret
    exact ⟨rfl, rfl⟩
end Go.Proofs.YtpfhhaonfbfheaaGreatDoor.en
/- The document's Parse of package env. Conditions: the names and the pairs lie in memory as their lists; texts of at most 2147483647 bytes, at most 2147483647 names and pairs. -/
namespace Go.Proofs.YtpfhhaonfbfheaaGreatDoor.en
open Go.ChangeShapes Go.WideShapes Go.ChangeAt Go.RowKit gl va ls ky

theorem take_any {l : List (List UInt8)} {p : List UInt8 → Bool} {k : Nat} {x : List UInt8} (h : l[k]? = some x) : (l.take (k + 1)).any p = ((l.take k).any p || p x) := by
  rw [List.take_add_one, h]
  simp
theorem pick_take {l : List (List UInt8)} {nm : List UInt8} {k : Nat} {x : List UInt8} (h : l[k]? = some x) (hn : pickL (l.take k) nm = none) : pickL (l.take (k + 1)) nm = if greatL x = nm then some x else none := by
  rw [List.take_add_one, h]
  show pickL (l.take k ++ [x]) nm = _
  rw [pick_snoc, hn]
  rfl
theorem pick_found {l : List (List UInt8)} {nm : List UInt8} {k : Nat} {x : List UInt8} (h : l[k]? = some x) (hn : pickL (l.take k) nm = none) (hg : greatL x = nm) : pickL l nm = some x := by
  have hl := drop_at h
  have e : l = l.take k ++ l.drop k := (List.take_append_drop k l).symm
  unfold pickL at hn ⊢
  rw [e, List.find?_append, hn, hl]
  simp [hg]
set_option maxHeartbeats 4000000 in
set_option maxRecDepth 100000 in
theorem refParse_any (names pairs : List (List UInt8)) (pn p : Option Addr) (nn cn np c : Nat) (hnn : names.length = nn) (hnp : pairs.length = np) (hn31 : nn ≤ 2147483647) (hp31 : np ≤ 2147483647) (hnl : ∀ x ∈ names, x.length ≤ 2147483646) (hpl : ∀ x ∈ pairs, x.length ≤ 2147483647) (w : World) (hN : Sts w (.slice pn nn cn) names) (hP : Sts w (.slice p np c) pairs) :
    Calls Tryz.prog 29 #[.slice pn nn cn, .slice p np c] w fun e w' => (∃ v, e = .returned (.tuple #[v, .int .i64 (parseL names 0 pairs []).2.1, .int .i64 ((parseL names 0 pairs []).2.2 : Nat)]) ∧ NewGvs w.heap.size w' v (parseL names 0 pairs []).1) ∧ Below w.heap.size w w' := by
  obtain ⟨i1, si, sz0, sz1, sz2⟩ := info_parts infoGv
  have HP := Lib.hid hP
  have HN := Lib.hid hN
  have HptrP := Lib.hid hP.ptr.2.2
  have HptrN := Lib.hid hN.ptr.2.2
  have Hpl := Lib.hid hpl
  have Hnl := Lib.hid hnl
  have Hnp := Lib.hid hnp
  have Hnn := Lib.hid hnn
  have HO0 : Hid (w.ownsRow w.heap.size 35 3 (.slice none 0 0) 0 (rw.flat gvC [])) := Lib.hid ⟨rfl, .inl ⟨rfl, rfl⟩⟩
  clear hP hN hpl hnl hnp hnn
  go_enter Tryz.func29, Tryz.ntmps29
  go_wp2_with fail
  go_loopw [7, 8] (fun vo vi wr => ∃ (j co no : Nat) (po : Option Addr) (out : List Gv), j ≤ np ∧ vi = .int .i64 j ∧ no ≤ j ∧ vo = .slice po no co ∧ Hid (wr.ownsRow w.heap.size 35 3 (.slice po no co) no (rw.flat gvC out)) ∧ Hid (parseL names 0 pairs [] = parseL names j (pairs.drop j) out) ∧ Hid (Below w.heap.size w wr)) (fun _ vi _ => np - (intOf vi).toNat)
  case atStart => exact ⟨0, 0, 0, none, [], by omega, rfl, by omega, rfl, HO0, Lib.hid rfl, Lib.hid (Below.refl _ _)⟩
  case round =>
    clear HO0
    obtain ⟨wq, rfl⟩ : ∃ wq, wq = wr := ⟨_, rfl⟩
    obtain ⟨j, co, no, po, out, hj, rfl, hno, rfl, HO, HR, Hb⟩ := hrel
    have hzq : w.heap.size ≤ wq.heap.size := Hb.out.size
    by_cases hlt : j < np
    · obtain ⟨x, hx⟩ : ∃ x, pairs[j]? = some x := ⟨_, List.getElem?_eq_getElem (by rw [Hnp.out]; exact hlt)⟩
      obtain ⟨bp, op, rfl, hbp⟩ := HptrP.out (by omega)
      have HcP : Hid (∀ W, Below w.heap.size w W → W.cell? ⟨bp, op + j, none⟩ = some (.string (B x)) ∧ bp < W.heap.size) := Lib.hid fun W hW => ⟨st_cell (HP.out.later hW) hx, by have := hW.size; omega⟩
      have c0 := (HcP.out _ Hb.out).1
      have hgo := (HcP.out _ Hb.out).2
      have hx31 := Hpl.out x (List.mem_of_getElem? hx)
      have Hx := Lib.hid hx
      have HF : Hid (∀ W, Calls Tryz.prog 59 #[.string (B x), .int .u8 61] W fun e w' => e = .returned (.tuple #[.string (B (bef 61 x)), .bool (decide ((61 : UInt8) ∈ x))]) ∧ W = w') := Lib.hid fun W => first_any (B x) 61 (by rw [B_size]; omega) W
      have hji : (j : Int) < (np : Int) := by omega
      have hj0 : (0 : Int) ≤ (j : Int) := by omega
      have hbl : (bef 61 x).length ≤ 2147483647 := by have := bef_len 61 x; omega
      obtain ⟨xb, hxb⟩ : ∃ xb, xb = B x := ⟨_, rfl⟩
      have hxsz : xb.size = x.length := by rw [hxb, B_size]
      have Hxsz := Lib.hid hxsz
      rw [← hxb] at c0 HF HcP
      have Hxb := Lib.hid hxb
      obtain ⟨nm, hnm⟩ : ∃ nm, nm = bef 61 x := ⟨_, rfl⟩
      rw [← hnm] at HF hbl
      have Hnm := Lib.hid hnm
      obtain ⟨nb, hnb⟩ : ∃ nb, nb = B nm := ⟨_, rfl⟩
      have Hnsz : Hid (nb.size = nm.length) := Lib.hid (by rw [hnb, B_size])
      rw [← hnb] at HF
      have Hnb := Lib.hid hnb
      clear hx hxb hnm hnb hxsz
      by_cases h61 : (61 : UInt8) ∈ x
      · rw [decide_eq_true h61] at HF
        have H61 := Lib.hid h61
        clear h61
        by_cases hne : nm = []
        · have Hr : Hid (parseL names 0 pairs [] = ([], 80, j)) := Lib.hid (by
            rw [HR.out, parse_err Hx.out (step_form (.inr (by rw [← Hnm.out]; exact hne)))])
          obtain rfl : nb = ⟨#[]⟩ := by rw [Hnb.out, hne]
          clear hne
          go_wp2_with fail
          refine (HF.out _).mono ?_
          rintro e w3 ⟨rfl, rfl⟩
          go_wp2_with fail
          go_ret3
          exact ⟨⟨.slice none 0 0, by first | (rw [Hr.out]; rfl) | rw [Hr.out], .inl ⟨by rw [Hr.out], rfl⟩⟩, Hb.out⟩
        · have hblq : nb.toList = nm := by rw [ByteArray.toList_eq, Hnb.out, B_list]
          have q1 : (nb.toList == []) = false := by
            rw [hblq, beq_eq_false_iff_ne]
            exact hne
          have q2 : nb.toList.isEmpty = false := by
            rw [hblq]
            cases nm with
            | nil => exact absurd rfl hne
            | cons a r => rfl
          have Hne := Lib.hid hne
          clear hblq hne
          go_wp2_with fail
          refine (HF.out _).mono ?_
          rintro e w3 ⟨rfl, rfl⟩
          go_wp2_with fail
          clear q1 q2
          go_loopw [7, 11, 12, 13] (fun vo vf vl vk wr => ∃ (k : Nat) (lk : Bool), k ≤ nn ∧ vk = .int .i64 k ∧ vl = .bool lk ∧ vf = .bool false ∧ vo = .slice po no co ∧ Hid (lk = (names.take k).any fun n => (partOf n).isPrefixOf nm) ∧ Hid (pickL (names.take k) nm = none) ∧ Hid (Below wq.heap.size wq wr)) (fun _ _ _ vk _ => nn - (intOf vk).toNat)
          case atStart => exact ⟨0, false, by omega, rfl, rfl, rfl, rfl, Lib.hid rfl, Lib.hid rfl, Lib.hid (Below.refl _ _)⟩
          case round =>
            obtain ⟨wo, rfl⟩ : ∃ wo, wo = wr := ⟨_, rfl⟩
            obtain ⟨k, lk, hk, rfl, rfl, rfl, rfl, HL, HPk, Hbk⟩ := hrel
            have Hwo : Hid (Below w.heap.size w wo) := Lib.hid (then_bel Hb.out hzq Hbk.out)
            by_cases hltk : k < nn
            · obtain ⟨y, hy⟩ : ∃ y, names[k]? = some y := ⟨_, List.getElem?_eq_getElem (by rw [Hnn.out]; exact hltk)⟩
              obtain ⟨bn, on, rfl, hbn⟩ := HptrN.out (by omega)
              have HcN : Hid (∀ W, Below w.heap.size w W → W.cell? ⟨bn, on + k, none⟩ = some (.string (B y)) ∧ bn < W.heap.size) := Lib.hid fun W hW => ⟨st_cell (HN.out.later hW) hy, by have := hW.size; omega⟩
              have d0 := (HcN.out _ Hwo.out).1
              have hdo := (HcN.out _ Hwo.out).2
              have hy31 := Hnl.out y (List.mem_of_getElem? hy)
              have Hy := Lib.hid hy
              have HFy : Hid (∀ W, Calls Tryz.prog 59 #[.string (B y), .int .u8 46] W fun e w' => e = .returned (.tuple #[.string (B (bef 46 y)), .bool (decide ((46 : UInt8) ∈ y))]) ∧ W = w') := Lib.hid fun W => first_any (B y) 46 (by rw [B_size]; omega) W
              have HGy : Hid (∀ W, Calls Tryz.prog 53 #[.string (B y)] W fun e w' => e = .returned (.string (B (greatL y))) ∧ Below W.heap.size W w') := Lib.hid fun W => refGreat_any (B y) (by rw [B_size]; omega) W
              have hb46 := bef_len 46 y
              have HGp : Hid (∀ W, Calls Tryz.prog 53 #[.string (B (bef 46 y))] W fun e w' => e = .returned (.string (B (greatL (bef 46 y)))) ∧ Below W.heap.size W w') := Lib.hid fun W => refGreat_any (B (bef 46 y)) (by rw [B_size]; omega) W
              have HBg : Hid (∀ W, Calls Tryz.prog 60 #[.string (B nm), .string (B (partOf y))] W fun e w' => e = .returned (.bool ((partOf y).isPrefixOf nm)) ∧ W = w') := Lib.hid fun W => refBegins_any (B nm) (B (partOf y)) (by rw [B_size]; exact hbl) (by rw [B_size]; unfold partOf; rw [List.length_append, great_len]; simp; omega) W
              have HAd : Hid (∀ W : World, (Op.stringOp .add (B (greatL (bef 46 y))) ⟨#[95]⟩).run Tryz.prog W = .ok (.string (B (partOf y))) W) := Lib.hid fun W => by
                have e : B (greatL (bef 46 y)) ++ (⟨#[95]⟩ : ByteArray) = B (partOf y) := by
                  apply ByteArray.ext
                  simp [partOf]
                rw [← e]
                refine run_string_add_sum W _ _ ?_
                have h2 : (⟨#[95]⟩ : ByteArray).size = 1 := rfl
                rw [B_size, great_len]
                omega
              have Hlk : Hid ((names.take (k + 1)).any (fun n => (partOf n).isPrefixOf nm) = (lk || (partOf y).isPrefixOf nm)) := Lib.hid (by rw [HL.out]; exact take_any hy)
              rw [← Hnb.out] at HBg
              have hki : (k : Int) < (nn : Int) := by omega
              have hk0 : (0 : Int) ≤ (k : Int) := by omega
              generalize decide ((46 : UInt8) ∈ y) = i46 at *
              generalize (partOf y).isPrefixOf nm = bg at *
              obtain ⟨gy, hgy⟩ : ∃ gy, gy = B (greatL y) := ⟨_, rfl⟩
              have Hgy := Lib.hid hgy
              rw [← hgy] at HGy
              obtain ⟨yb, hyb⟩ : ∃ yb, yb = B y := ⟨_, rfl⟩
              have Hyb := Lib.hid hyb
              rw [← hyb] at HGy HFy HcN d0
              generalize B (greatL (bef 46 y)) = gp at *
              generalize B (bef 46 y) = fp at *
              generalize B (partOf y) = pb at *
              clear hgy hyb hy hb46
              go_wp2_with fail
              refine (HFy.out _).mono ?_
              rintro e w4 ⟨rfl, rfl⟩
              go_wp2_with fail
              refine (HGy.out _).mono ?_
              rintro e w5 ⟨rfl, hb5⟩
              have Hb5 := Lib.hid (then_bel Hbk.out Hbk.out.size hb5)
              have Hw5 := Lib.hid (then_bel Hwo.out Hwo.out.size hb5)
              have d5 := (HcN.out _ Hw5.out).1
              have hd5 := (HcN.out _ Hw5.out).2
              have c5 := (HcP.out _ Hw5.out).1
              have hc5 := (HcP.out _ Hw5.out).2
              clear hb5 d0 hdo
              by_cases hgn : greatL y = nm
              · have q3 : (gy.toList == nb.toList) = true := by rw [ByteArray.toList_eq, ByteArray.toList_eq, Hgy.out, Hnb.out, hgn]; simp
                have Hst : Hid (stepL names x = .ok (some (y, aft 61 x))) := Lib.hid (step_pick H61.out (by rw [← Hnm.out]; exact Hne.out) (by rw [← Hnm.out]; exact pick_found Hy.out HPk.out hgn))
                have Hr2 : Hid (parseL names 0 pairs [] = parseL names (j + 1) (pairs.drop (j + 1)) (out ++ [⟨y, aft 61 x, j⟩])) := Lib.hid (by rw [HR.out, parse_take Hx.out Hst.out])
                have Had := aft_drop H61.out
                have hle : nb.size + 1 ≤ xb.size := by rw [Hnsz.out, Hxsz.out, Hnm.out]; exact Had.2
                have Hcut : Hid (B (aft 61 x) = xb.extract (nb.size + 1) xb.size) := Lib.hid (by
                  apply ByteArray.ext
                  apply Array.toList_inj.1
                  rw [extract_toList, Hxb.out, B_list, ← Had.1, Hnsz.out, Hnm.out, B_size, List.take_of_length_le (by simp)])
                obtain ⟨n1, hn1⟩ : ∃ n1, n1 = nb.size + 1 := ⟨_, rfl⟩
                rw [← hn1] at Hcut
                have hle1 : (n1 : Int) ≤ (xb.size : Int) := by omega
                have hle0 : (0 : Int) ≤ (n1 : Int) := by omega
                have hwr : IntKind.i64.wrap ((nb.size : Int) + 1) = (n1 : Int) := by
                  rw [IntWalk.i64_in _ (by have := Hnsz.out; omega)]
                  omega
                clear hn1 hle
                have HO5 := Lib.hid (ls.own_kept HO.out Hb5.out)
                have hz5 : w.heap.size ≤ w5.heap.size := Hw5.out.size
                clear hgn Had
                go_wp2_with fail
                go_region_law (first
                  | (refine step_append_k (by rfl) _ _ 31 (by rfl) 35 i1 _ 3 40 Tryz.underlying31 si sz0 sz1 sz2 rfl (by omega) _ (by rfl) (by rfl) w.heap.size _ no _ (by rfl) HO5.out (by simp [Value.oneCell']) (by omega) (by omega) hz5 ?_; intro g8 c8 w8 hown8 hgrow8 _ _ _; have HO8 := Lib.hid hown8; have HG8 := Lib.hid hgrow8; clear hown8 hgrow8)
                  | (refine step_append_k0 (by rfl) _ _ 31 (by rfl) 35 i1 _ 3 40 Tryz.underlying31 si sz0 sz1 sz2 rfl (by omega) _ (by rfl) (by rfl) w.heap.size _ no _ (by rfl) HO5.out (by simp [Value.oneCell']) (by omega) (by omega) hz5 ?_; intro g8 c8 w8 hown8 hgrow8 _ _ _; have HO8 := Lib.hid hown8; have HG8 := Lib.hid hgrow8; clear hown8 hgrow8)
                  | fail)
                all_goals
                  have HO9 : Hid (w8.ownsRow w.heap.size 35 3 (.slice (some ⟨g8, 0, none⟩) (no + 1) c8) (no + 1) (rw.flat gvC (out ++ [⟨y, aft 61 x, j⟩]))) := Lib.hid (by
                    rw [rw.flat_snoc]
                    show w8.ownsRow w.heap.size 35 3 _ (no + 1) (_ ++ [.string (B y), .string (B (aft 61 x)), .int .i64 j])
                    rw [← Hyb.out, Hcut.out]
                    exact HO8.out)
                  have Hb8 := Lib.hid (below_grown_own Hw5.out HO5.out HG8.out hz5)
                  clear q3 d5 hd5 c5 hc5
                  go_wp2_with fail
                  go_roundw
                  case rel => exact ⟨j + 1, c8, no + 1, some ⟨g8, 0, none⟩, _, by omega, by go_num, by omega, rfl, HO9, Hr2, Hb8⟩
                  case measure => simp [intOf]; omega
              · have q3 : (gy.toList == nb.toList) = false := by
                  rw [ByteArray.toList_eq, ByteArray.toList_eq, Hgy.out, Hnb.out, B_list, B_list, beq_eq_false_iff_ne]
                  exact hgn
                have HPk2 : Hid (pickL (names.take (k + 1)) nm = none) := Lib.hid (by rw [pick_take Hy.out HPk.out, if_neg hgn])
                clear hgn
                cases lk with
                | true =>
                  have HL2 : Hid (true = (names.take (k + 1)).any fun n => (partOf n).isPrefixOf nm) := Lib.hid (by rw [Hlk.out]; rfl)
                  go_wp2_with fail
                  go_roundw
                  case rel => exact ⟨k + 1, true, by omega, by go_num, rfl, rfl, rfl, HL2, HPk2, Hb5⟩
                  case measure => simp [intOf]; omega
                | false =>
                  have HL2 : Hid (bg = (names.take (k + 1)).any fun n => (partOf n).isPrefixOf nm) := Lib.hid (by rw [Hlk.out]; simp)
                  go_wp2_with fail
                  refine (HGp.out _).mono ?_
                  rintro e w6 ⟨rfl, hb6⟩
                  have Hb6 := Lib.hid (then_bel Hb5.out Hb5.out.size hb6)
                  have hadd := HAd.out
                  clear hb6
                  go_wp2_with fail
                  refine (HBg.out _).mono ?_
                  rintro e w7 ⟨rfl, rfl⟩
                  go_wp2_with fail
                  go_roundw
                  case rel => exact ⟨k + 1, bg, by omega, by go_num, rfl, rfl, rfl, HL2, HPk2, Hb6⟩
                  case measure => simp [intOf]; omega
            · obtain rfl : k = nn := by omega
              have htk : names.take k = names := List.take_of_length_le (by rw [Hnn.out]; exact Nat.le_refl _)
              have hL := HL.out
              have hPk := HPk.out
              rw [htk] at hL hPk
              have HLk : Hid (likeL names nm = lk) := Lib.hid hL.symm
              have HPn := Lib.hid hPk
              clear htk hL hPk
              cases lk with
              | true =>
                have Hr : Hid (parseL names 0 pairs [] = ([], 81, j)) := Lib.hid (by
                  rw [HR.out, parse_err Hx.out (step_like H61.out (by rw [← Hnm.out]; exact Hne.out) (by rw [← Hnm.out]; exact HPn.out) (by rw [← Hnm.out]; exact HLk.out))])
                go_wp2_with fail
                go_ret3
                exact ⟨⟨.slice none 0 0, by first | (rw [Hr.out]; rfl) | rw [Hr.out], .inl ⟨by rw [Hr.out], rfl⟩⟩, Hwo.out⟩
              | false =>
                have Hr2 : Hid (parseL names 0 pairs [] = parseL names (j + 1) (pairs.drop (j + 1)) out) := Lib.hid (by
                  rw [HR.out, parse_skip Hx.out (step_skip H61.out (by rw [← Hnm.out]; exact Hne.out) (by rw [← Hnm.out]; exact HPn.out) (by rw [← Hnm.out]; exact HLk.out))])
                have HOo := Lib.hid (ls.own_kept HO.out Hbk.out)
                go_wp2_with fail
                go_roundw
                case rel => exact ⟨j + 1, co, no, po, out, by omega, by go_num, by omega, rfl, HOo, Hr2, Hwo⟩
                case measure => simp [intOf]; omega
      · have Hr : Hid (parseL names 0 pairs [] = ([], 80, j)) := Lib.hid (by
          rw [HR.out, parse_err Hx.out (step_form (.inl h61))])
        rw [decide_eq_false h61] at HF
        clear h61
        go_wp2_with fail
        refine (HF.out _).mono ?_
        rintro e w3 ⟨rfl, rfl⟩
        go_wp2_with fail
        go_ret3
        exact ⟨⟨.slice none 0 0, by first | (rw [Hr.out]; rfl) | rw [Hr.out], .inl ⟨by rw [Hr.out], rfl⟩⟩, Hb.out⟩
    · obtain rfl : j = np := by omega
      have Hr : Hid (parseL names 0 pairs [] = (out, 0, 0)) := Lib.hid (by
        rw [HR.out, ← Hnp.out]
        exact parse_end names pairs out _)
      have HN2 := Lib.hid (rw.own_new gvC_len (by decide) HO.out)
      go_wp2_with fail
      go_ret3
      refine ⟨⟨_, by rw [Hr.out]; rfl, ?_⟩, Hb.out⟩
      rw [Hr.out]
      exact HN2.out
end Go.Proofs.YtpfhhaonfbfheaaGreatDoor.en
/- law 08's made: a set of definitions, or the standard one with some more; the names of its settings. Conditions: definitions whose texts and numbers may be; the listed variables hold what the program's text lays. -/
namespace Go.Proofs.YtpfhhaonfbfheaaGreatDoor.en
open Go.ChangeShapes Go.WideShapes Go.ChangeAt Go.RowKit gl va ls ky

theorem SetK.mono {M M' : Nat} {w : World} {b : Nat} {S : List Ky} (h : SetK M w b S) (hM : M' ≤ M) : SetK M' w b S := by
  obtain ⟨h1, h2, h3, h4, v, hv, hB⟩ := h
  exact ⟨by omega, h2, h3, h4, v, hv, hB.mono hM⟩
/-- All names are names. -/
def Named (S : List Ky) : Prop := ∀ x ∈ S, nameL x.name = true
theorem ins_mem {S : List Ky} {x y : Ky} (h : y ∈ insK S x) : y = x ∨ y ∈ S := by
  unfold insK at h
  rcases List.mem_append.1 h with h | h
  · exact .inr (List.takeWhile_subset _ h)
  · rcases List.mem_cons.1 h with h | h
    · exact .inl h
    · exact .inr (List.dropWhile_subset _ h)
theorem named_add {S : List Ky} (h : Named S) (x : Ky) : Named (addK S x) := by
  unfold addK
  split
  · rename_i h0
    have hf : formL x = true := by
      cases hf : formL x with
      | true => rfl
      | false => rw [addE_form hf] at h0; cases h0
    unfold formL at hf
    simp only [Bool.and_eq_true] at hf
    intro y hy
    rcases ins_mem hy with rfl | hy
    · exact hf.1.1
    · exact h y hy
  · exact h
theorem named_all : ∀ (l : List Ky) {S : List Ky}, Named S → Named (addAll S l)
  | [], _, h => h
  | x :: r, _, h => named_all r (named_add h x)
theorem named_std : Named stdK := by unfold Named; decide +kernel
theorem addAll_next {S l : List Ky} {k : Nat} {x : Ky} (h : l[k]? = some x) : addAll S (l.take (k + 1)) = addK (addAll S (l.take k)) x := by
  rw [List.take_add_one, h, addAll_append]
  rfl
/-- The set that a law makes. -/
noncomputable def madeS (std : Bool) (l : List Ky) : List Ky := addAll (if std = true then stdK else []) l
theorem named_made (std : Bool) (l : List Ky) : Named (madeS std l) := by
  unfold madeS
  refine named_all l ?_
  split
  · exact named_std
  · intro x hx; cases hx
theorem name_row {S : List Ky} {k : Nat} {x : Ky} (h : S[k]? = some x) : ((S.map (·.name)).take (k + 1)) = ((S.map (·.name)).take k) ++ [x.name] := take_map_snoc h
set_option maxHeartbeats 4000000 in
set_option maxRecDepth 100000 in
theorem made_any (pk : Option Addr) (nk ck : Nat) (l : List Ky) (std : Bool) (hnk : l.length = nk) (hnk31 : nk ≤ 2147483647) (hok : ∀ x ∈ l, KyOk x) (w : World) (hK : Kys w (.slice pk nk ck) l) (hV : Vlo w) :
    Calls Tryz.prog 25 #[.slice pk nk ck, .bool std] w fun e w' => (∃ b v, e = .returned (.tuple #[.pointer (some ⟨b, 0, none⟩), v]) ∧ SetK w.heap.size w' b (madeS std l) ∧ NewSts w.heap.size w' v ((madeS std l).map (·.name))) ∧ Below w.heap.size w w' := by
  obtain ⟨i0, hi, hz0, hz1, hz2⟩ := info_parts infoStr
  have HV := Lib.hid fun W (h : Below w.heap.size w W) => hV.below h (Nat.le_refl _)
  have HK := Lib.hid hK
  have Hptr := Lib.hid hK.ptr.2.2
  have Hok := Lib.hid hok
  have Hnk := Lib.hid hnk
  have HNw := Lib.hid (New_any w)
  obtain ⟨S, hS⟩ : ∃ S, S = madeS std l := ⟨_, rfl⟩
  rw [← hS]
  have HSe := Lib.hid hS
  clear hK hok hnk hV hS
  cases std with
  | true =>
    go_enter Tryz.func25, Tryz.ntmps25
    go_wp2_with fail
    refine HNw.out.mono ?_
    rintro e w1 ⟨rfl, hS1, hb1⟩
    have Hb1 := Lib.hid hb1
    clear hS1 hb1 HNw
    go_wp2_with fail
    refine (Standard_any w1 (HV.out _ Hb1.out)).mono ?_
    rintro e w2 ⟨⟨b, rfl, hS2⟩, hb2⟩
    have HS2 : Hid (SetK w.heap.size w2 b (addAll stdK (l.take 0))) := Lib.hid (SetK.mono hS2 Hb1.out.size)
    have Hb2 : Hid (Below w.heap.size w w2) := Lib.hid (then_bel Hb1.out Hb1.out.size hb2)
    have hM : Hid (S = addAll stdK l) := Lib.hid HSe.out
    clear HSe
    generalize stdK = S0 at *
    clear hS2 hb2
    go_wp2_with fail
    go_loopw [7] (fun vi wr => ∃ k : Nat, k ≤ nk ∧ vi = .int .i64 k ∧ Hid (SetK w.heap.size wr b (addAll S0 (l.take k))) ∧ Hid (Below w.heap.size w wr)) (fun vi _ => nk - (intOf vi).toNat)
    case atStart => exact ⟨0, by omega, rfl, HS2, Hb2⟩
    case round =>
      clear HS2 Hb2
      obtain ⟨wo, rfl⟩ : ∃ wo, wo = wr := ⟨_, rfl⟩
      obtain ⟨k, hk, rfl, HS, Hb⟩ := hrel
      have hzo : w.heap.size ≤ wo.heap.size := Hb.out.size
      by_cases hlt : k < nk
      · obtain ⟨x, hx⟩ : ∃ x, l[k]? = some x := ⟨_, List.getElem?_eq_getElem (by rw [Hnk.out]; exact hlt)⟩
        obtain ⟨gk, ok, rfl, hgk⟩ := Hptr.out (by omega)
        obtain ⟨c0, c1, c2, c3, c4, c5⟩ := ky_cells (HK.out.later Hb.out) hx
        have hgo : gk < wo.heap.size := by omega
        have HA := Lib.hid (Add_any w.heap.size b _ x wo HS.out (Hok.out x (List.mem_of_getElem? hx)) hzo (HV.out _ Hb.out))
        rw [← addAll_next hx] at HA
        have hki : (k : Int) < (nk : Int) := by omega
        have hk0 : (0 : Int) ≤ (k : Int) := by omega
        generalize addE (addAll S0 (l.take k)) x = er at *
        clear hx
        generalize B x.name = nx at *
        generalize B x.dflt = dx at *
        generalize B x.letter = lx at *
        generalize x.kind = kx at *
        generalize x.least = ex at *
        generalize x.most = ox at *
        go_wp2_with fail
        refine HA.out.mono ?_
        rintro e w3 ⟨rfl, hS3, hb3⟩
        have HS3 := Lib.hid hS3
        have Hb3 : Hid (Below w.heap.size w w3) := Lib.hid (Hb.out.trans hb3)
        clear hS3 hb3 c0 c1 c2 c3 c4 c5
        go_wp2_with fail
        go_roundw
        case rel => exact ⟨k + 1, by omega, by go_num, HS3, Hb3⟩
        case measure => simp [intOf]; omega
      · obtain rfl : k = nk := by omega
        have htk : l.take k = l := List.take_of_length_le (by rw [Hnk.out]; exact Nat.le_refl _)
        have hSk := HS.out
        rw [htk, ← hM.out] at hSk
        have HSl := Lib.hid hSk
        clear htk hSk HS hM
        have HAl := Lib.hid (All_any w.heap.size b S wo HSl.out)
        have hlen := HSl.out.len
        obtain ⟨n, hn⟩ : ∃ n, n = S.length := ⟨_, rfl⟩
        rw [← hn] at HAl hlen
        have Hn := Lib.hid hn
        clear hn
        go_wp2_with fail
        refine HAl.out.mono ?_
        rintro e w4 ⟨⟨pa, rfl, hn4⟩, hb4⟩
        have HK4 : Hid (Kys w4 (.slice pa n n) S) := Lib.hid (hn4.rw kyC_len)
        have Hp4 := Lib.hid HK4.out.ptr.2.2
        have HS4 := Lib.hid (HSl.out.later hb4)
        have Hb4 := Lib.hid (then_bel Hb.out hzo hb4)
        have HO4 : Hid (w4.ownsRow w4.heap.size 9 1 (.slice none 0 0) 0 (rw.flat stC ((S.map (·.name)).take 0))) := Lib.hid ⟨rfl, .inl ⟨rfl, rfl⟩⟩
        have hz4 : w.heap.size ≤ w4.heap.size := Hb4.out.size
        clear hn4 hb4 HAl HSl
        go_wp2_with fail
        go_loopw [9, 10] (fun vo vi wr => ∃ (j co : Nat) (po : Option Addr), j ≤ n ∧ vi = .int .i64 j ∧ vo = .slice po j co ∧ Hid (wr.ownsRow w4.heap.size 9 1 (.slice po j co) j (rw.flat stC ((S.map (·.name)).take j))) ∧ Hid (Below w4.heap.size w4 wr)) (fun _ vi _ => n - (intOf vi).toNat)
        case atStart => exact ⟨0, 0, none, by omega, rfl, rfl, HO4, Lib.hid (Below.refl _ _)⟩
        case round =>
          clear HO4
          obtain ⟨wq, rfl⟩ : ∃ wq, wq = wr := ⟨_, rfl⟩
          obtain ⟨j, co, po, hj, rfl, rfl, HO, Hbq⟩ := hrel
          have hzq : w4.heap.size ≤ wq.heap.size := Hbq.out.size
          by_cases hltj : j < n
          · obtain ⟨x, hx⟩ : ∃ x, S[j]? = some x := ⟨_, List.getElem?_eq_getElem (by rw [← Hn.out]; exact hltj)⟩
            obtain ⟨ga, oa, rfl, hga⟩ := Hp4.out (by omega)
            obtain ⟨c0, _⟩ := ky_cells (HK4.out.later Hbq.out) hx
            have hgo : ga < wq.heap.size := by omega
            have Htk : Hid ((S.map (·.name)).take (j + 1) = (S.map (·.name)).take j ++ [x.name]) := Lib.hid (name_row hx)
            have hji : (j : Int) < (n : Int) := by omega
            have hj0 : (0 : Int) ≤ (j : Int) := by omega
            obtain ⟨nx, hnx⟩ : ∃ nx, nx = B x.name := ⟨_, rfl⟩
            rw [← hnx] at c0
            have Hnx := Lib.hid hnx
            clear hx hnx
            focus
              go_wp2_with (at_builtin; go_must (refine wpList_append_lit rfl _ _ 38 rfl 9 i0 _ 16 Tryz.underlying38 hi hz0 hz1 hz2 rfl _ 1 (by omega) (by rfl) (by rfl) w4.heap.size _ j _ (by rfl) HO.out (by simp [Value.oneCell']) (by omega) (by omega) (by omega) ?_))
            intro g' cap' w5 hown5 hgrow5 hat5 hz5 hlt5
            have HO5 : Hid (w5.ownsRow w4.heap.size 9 1 (.slice (some ⟨g', 0, none⟩) (j + 1) cap') (j + 1) (rw.flat stC ((S.map (·.name)).take (j + 1)))) := Lib.hid (by
              rw [Htk.out, rw.flat_snoc]
              show w5.ownsRow w4.heap.size 9 1 _ (j + 1) (_ ++ [.string (B x.name)])
              rw [← Hnx.out]
              exact hown5)
            have Hb5 := Lib.hid (below_grown_own Hbq.out HO.out hgrow5 hzq)
            clear hown5 hgrow5 hat5 hz5 hlt5 c0
            go_wp2_with fail
            go_roundw
            case rel => exact ⟨j + 1, cap', some ⟨g', 0, none⟩, by omega, by go_num, rfl, HO5, Hb5⟩
            case measure => simp [intOf]; omega
          · obtain rfl : j = n := by omega
            have HNr := Lib.hid (rw.own_new stC_len (by decide) HO.out)
            have HSq := Lib.hid (HS4.out.later Hbq.out)
            have Hwq := Lib.hid (then_bel Hb4.out hz4 Hbq.out)
            go_wp2_with fail
            go_ret2
            refine ⟨⟨b, _, rfl, HSq.out, ?_⟩, Hwq.out⟩
            have h := HNr.out.mono hz4
            rwa [List.take_of_length_le (by rw [List.length_map, ← Hn.out]; exact Nat.le_refl _)] at h
  | false =>
    go_enter Tryz.func25, Tryz.ntmps25
    go_wp2_with fail
    refine HNw.out.mono ?_
    rintro e w2 ⟨rfl, hS1, hb2⟩
    have hM : Hid (S = addAll [] l) := Lib.hid HSe.out
    clear HSe
    obtain ⟨b, hbe⟩ : ∃ b, b = w.heap.size := ⟨_, rfl⟩
    have HS2 : Hid (SetK w.heap.size w2 b (addAll [] (l.take 0))) := Lib.hid (by rw [hbe]; exact hS1)
    have Hb2 : Hid (Below w.heap.size w w2) := Lib.hid hb2
    clear hS1
    rw [← hbe]
    generalize ([] : List Ky) = S0 at *
    clear hb2 HNw hbe
    go_wp2_with fail
    go_loopw [7] (fun vi wr => ∃ k : Nat, k ≤ nk ∧ vi = .int .i64 k ∧ Hid (SetK w.heap.size wr b (addAll S0 (l.take k))) ∧ Hid (Below w.heap.size w wr)) (fun vi _ => nk - (intOf vi).toNat)
    case atStart => exact ⟨0, by omega, rfl, HS2, Hb2⟩
    case round =>
      clear HS2 Hb2
      obtain ⟨wo, rfl⟩ : ∃ wo, wo = wr := ⟨_, rfl⟩
      obtain ⟨k, hk, rfl, HS, Hb⟩ := hrel
      have hzo : w.heap.size ≤ wo.heap.size := Hb.out.size
      by_cases hlt : k < nk
      · obtain ⟨x, hx⟩ : ∃ x, l[k]? = some x := ⟨_, List.getElem?_eq_getElem (by rw [Hnk.out]; exact hlt)⟩
        obtain ⟨gk, ok, rfl, hgk⟩ := Hptr.out (by omega)
        obtain ⟨c0, c1, c2, c3, c4, c5⟩ := ky_cells (HK.out.later Hb.out) hx
        have hgo : gk < wo.heap.size := by omega
        have HA := Lib.hid (Add_any w.heap.size b _ x wo HS.out (Hok.out x (List.mem_of_getElem? hx)) hzo (HV.out _ Hb.out))
        rw [← addAll_next hx] at HA
        have hki : (k : Int) < (nk : Int) := by omega
        have hk0 : (0 : Int) ≤ (k : Int) := by omega
        generalize addE (addAll S0 (l.take k)) x = er at *
        clear hx
        generalize B x.name = nx at *
        generalize B x.dflt = dx at *
        generalize B x.letter = lx at *
        generalize x.kind = kx at *
        generalize x.least = ex at *
        generalize x.most = ox at *
        go_wp2_with fail
        refine HA.out.mono ?_
        rintro e w3 ⟨rfl, hS3, hb3⟩
        have HS3 := Lib.hid hS3
        have Hb3 : Hid (Below w.heap.size w w3) := Lib.hid (Hb.out.trans hb3)
        clear hS3 hb3 c0 c1 c2 c3 c4 c5
        go_wp2_with fail
        go_roundw
        case rel => exact ⟨k + 1, by omega, by go_num, HS3, Hb3⟩
        case measure => simp [intOf]; omega
      · obtain rfl : k = nk := by omega
        have htk : l.take k = l := List.take_of_length_le (by rw [Hnk.out]; exact Nat.le_refl _)
        have hSk := HS.out
        rw [htk, ← hM.out] at hSk
        have HSl := Lib.hid hSk
        clear htk hSk HS hM
        have HAl := Lib.hid (All_any w.heap.size b S wo HSl.out)
        have hlen := HSl.out.len
        obtain ⟨n, hn⟩ : ∃ n, n = S.length := ⟨_, rfl⟩
        rw [← hn] at HAl hlen
        have Hn := Lib.hid hn
        clear hn
        go_wp2_with fail
        refine HAl.out.mono ?_
        rintro e w4 ⟨⟨pa, rfl, hn4⟩, hb4⟩
        have HK4 : Hid (Kys w4 (.slice pa n n) S) := Lib.hid (hn4.rw kyC_len)
        have Hp4 := Lib.hid HK4.out.ptr.2.2
        have HS4 := Lib.hid (HSl.out.later hb4)
        have Hb4 := Lib.hid (then_bel Hb.out hzo hb4)
        have HO4 : Hid (w4.ownsRow w4.heap.size 9 1 (.slice none 0 0) 0 (rw.flat stC ((S.map (·.name)).take 0))) := Lib.hid ⟨rfl, .inl ⟨rfl, rfl⟩⟩
        have hz4 : w.heap.size ≤ w4.heap.size := Hb4.out.size
        clear hn4 hb4 HAl HSl
        go_wp2_with fail
        go_loopw [9, 10] (fun vo vi wr => ∃ (j co : Nat) (po : Option Addr), j ≤ n ∧ vi = .int .i64 j ∧ vo = .slice po j co ∧ Hid (wr.ownsRow w4.heap.size 9 1 (.slice po j co) j (rw.flat stC ((S.map (·.name)).take j))) ∧ Hid (Below w4.heap.size w4 wr)) (fun _ vi _ => n - (intOf vi).toNat)
        case atStart => exact ⟨0, 0, none, by omega, rfl, rfl, HO4, Lib.hid (Below.refl _ _)⟩
        case round =>
          clear HO4
          obtain ⟨wq, rfl⟩ : ∃ wq, wq = wr := ⟨_, rfl⟩
          obtain ⟨j, co, po, hj, rfl, rfl, HO, Hbq⟩ := hrel
          have hzq : w4.heap.size ≤ wq.heap.size := Hbq.out.size
          by_cases hltj : j < n
          · obtain ⟨x, hx⟩ : ∃ x, S[j]? = some x := ⟨_, List.getElem?_eq_getElem (by rw [← Hn.out]; exact hltj)⟩
            obtain ⟨ga, oa, rfl, hga⟩ := Hp4.out (by omega)
            obtain ⟨c0, _⟩ := ky_cells (HK4.out.later Hbq.out) hx
            have hgo : ga < wq.heap.size := by omega
            have Htk : Hid ((S.map (·.name)).take (j + 1) = (S.map (·.name)).take j ++ [x.name]) := Lib.hid (name_row hx)
            have hji : (j : Int) < (n : Int) := by omega
            have hj0 : (0 : Int) ≤ (j : Int) := by omega
            obtain ⟨nx, hnx⟩ : ∃ nx, nx = B x.name := ⟨_, rfl⟩
            rw [← hnx] at c0
            have Hnx := Lib.hid hnx
            clear hx hnx
            focus
              go_wp2_with (at_builtin; go_must (refine wpList_append_lit rfl _ _ 38 rfl 9 i0 _ 16 Tryz.underlying38 hi hz0 hz1 hz2 rfl _ 1 (by omega) (by rfl) (by rfl) w4.heap.size _ j _ (by rfl) HO.out (by simp [Value.oneCell']) (by omega) (by omega) (by omega) ?_))
            intro g' cap' w5 hown5 hgrow5 hat5 hz5 hlt5
            have HO5 : Hid (w5.ownsRow w4.heap.size 9 1 (.slice (some ⟨g', 0, none⟩) (j + 1) cap') (j + 1) (rw.flat stC ((S.map (·.name)).take (j + 1)))) := Lib.hid (by
              rw [Htk.out, rw.flat_snoc]
              show w5.ownsRow w4.heap.size 9 1 _ (j + 1) (_ ++ [.string (B x.name)])
              rw [← Hnx.out]
              exact hown5)
            have Hb5 := Lib.hid (below_grown_own Hbq.out HO.out hgrow5 hzq)
            clear hown5 hgrow5 hat5 hz5 hlt5 c0
            go_wp2_with fail
            go_roundw
            case rel => exact ⟨j + 1, cap', some ⟨g', 0, none⟩, by omega, by go_num, rfl, HO5, Hb5⟩
            case measure => simp [intOf]; omega
          · obtain rfl : j = n := by omega
            have HNr := Lib.hid (rw.own_new stC_len (by decide) HO.out)
            have HSq := Lib.hid (HS4.out.later Hbq.out)
            have Hwq := Lib.hid (then_bel Hb4.out hz4 Hbq.out)
            go_wp2_with fail
            go_ret2
            refine ⟨⟨b, _, rfl, HSq.out, ?_⟩, Hwq.out⟩
            have h := HNr.out.mono hz4
            rwa [List.take_of_length_le (by rw [List.length_map, ← Hn.out]; exact Nat.le_refl _)] at h
end Go.Proofs.YtpfhhaonfbfheaaGreatDoor.en
/- law 08's lent lays texts in new memory, two behind them; whole tells that they are as they were. Conditions: at most 2147483647 texts that lie in memory. -/
namespace Go.Proofs.YtpfhhaonfbfheaaGreatDoor.en
open Go.ChangeShapes Go.WideShapes Go.ChangeAt Go.RowKit gl va ls ky

/-- Texts in a block of their own. -/
def LieS (g : Nat) (w : World) (l : List (List UInt8)) : Prop := ∃ cs, w.heap[g]? = some (.cells cs 9 (0, 0)) ∧ l.length ≤ cs.size ∧ ∀ (j : Nat) (x : List UInt8), l[j]? = some x → cs[j]? = some (.string (B x))
theorem LieS.lt {g : Nat} {w : World} {l : List (List UInt8)} (h : LieS g w l) : g < w.heap.size := by obtain ⟨cs, h1, _⟩ := h; exact lt_of_block h1
theorem LieS.later {g : Nat} {w w' : World} {l : List (List UInt8)} (h : LieS g w l) (hb : Below w.heap.size w w') : LieS g w' l := by
  obtain ⟨cs, h1, h2⟩ := h
  exact ⟨cs, (hb.block g (lt_of_block h1)).trans h1, h2⟩
theorem LieS.cell {g : Nat} {w : World} {l : List (List UInt8)} (h : LieS g w l) {j : Nat} {x : List UInt8} (hx : l[j]? = some x) : w.cell? ⟨g, j, none⟩ = some (.string (B x)) := by
  obtain ⟨cs, h1, _, h3⟩ := h
  rw [cell_in h1]
  exact h3 j x hx
theorem LieS.sts {g n c : Nat} {w : World} {l : List (List UInt8)} (h : LieS g w l) (hn : n ≤ l.length) (hc : n ≤ c) : Sts w (.slice (some ⟨g, 0, none⟩) n c) (l.take n) := by
  have hl : (l.take n).length = n := by rw [List.length_take, Nat.min_eq_left hn]
  refine ⟨_, c, by rw [hl], by rw [hl]; exact hc, .inr ⟨g, 0, rfl, h.lt, fun j x hx i u hu => ?_⟩⟩
  have hj := ls.lt_get hx
  rw [hl] at hj
  rw [List.getElem?_take_of_lt hj] at hx
  obtain rfl : i = 0 := by have := ls.lt_get hu; simp [stC] at this; omega
  have hu' : u = .string (B x) := by simpa [stC] using hu.symm
  rw [hu', Nat.mul_one, Nat.add_zero, Nat.zero_add]
  exact h.cell hx
theorem LieS.set {g : Nat} {w : World} {l : List (List UInt8)} (h : LieS g w l) {m : Nat} {a : List UInt8} (hm : m < l.length) : LieS g (w.setCell ⟨g, m, none⟩ (.string (B a))) (l.set m a) := by
  obtain ⟨cs, h1, h2, h3⟩ := h
  refine ⟨_, heap_set h1 _, by simpa using h2, fun j x hx => ?_⟩
  rw [List.getElem?_set] at hx
  rw [Array.getElem?_setIfInBounds]
  by_cases hj : m = j
  · subst hj
    rw [if_pos rfl] at hx ⊢
    have hx2 : a = x := by simpa [hm] using hx
    rw [if_pos (by omega), hx2]
  · rw [if_neg hj] at hx ⊢
    exact h3 j x hx
theorem run_copy_s {P : Program} (w : World) (dT sT ty elem : TypeId) (g dLen dCap : Nat) (a : Addr) (sLen sCap : Nat) (cur : Array Value) (t : TypeId) (cs : List Value) (n : Nat)
    (hu : P.underlying dT = some (.slice elem)) (hs : (P.info? elem).map (·.size) = some 1) (hmin : Nat.min sLen dLen = n)
    (hg : w.heap[g]? = some (.cells cur t (0, 0))) (hn : cs.length = n)
    (hsrc : ∀ j v, cs[j]? = some v → w.cell? (a.add j) = some v) (hfit : cs.length ≤ cur.size) (h1 : ∀ v ∈ cs, v.oneCell' = true) :
    (Builtin.copy_ #[dT, sT] ty #[.slice (some ⟨g, 0, none⟩) dLen dCap, .slice (some a) sLen sCap]).run P w =
      .ok (goInt n) (w.setRow g (cs ++ cur.toList.drop cs.length).toArray) := by
  have hl := run_loadCells_list (P := P) w a cs hsrc
  have hst := run_storeCells_at P g 0 t cs 0 cur w hg (by simpa using hfit) h1
  cases hq : P.info? elem with
  | none => simp [hq] at hs
  | some i =>
    have hi : i.size = 1 := by simpa [hq] using hs
    simp only [Nat.zero_add, List.take_zero, List.nil_append] at hst
    simp [Builtin.copy_, run_underlying hu, Builtin.lenOf, Builtin.firstCells, sizeOf, typeInfo, hq, hi, hmin, ← hn, hl, hst]
theorem run_copy_s0 {P : Program} (w : World) (dT sT ty elem : TypeId) (d a : Option Addr) (dLen dCap sLen sCap size : Nat) (hu : P.underlying dT = some (.slice elem)) (hs : (P.info? elem).map (·.size) = some size) (hn : Nat.min sLen dLen = 0) :
    (Builtin.copy_ #[dT, sT] ty #[.slice d dLen dCap, .slice a sLen sCap]).run P w = .ok (goInt 0) w := by
  cases hq : P.info? elem with
  | none => simp [hq] at hs
  | some i =>
    have hl : ∀ (x : Addr), (loadCells x 0).run P w = .ok #[] w := fun x => by simpa using run_loadCells_list (P := P) w x [] (by simp)
    cases d <;> cases a <;> simp [Builtin.copy_, run_underlying hu, Builtin.lenOf, Builtin.firstCells, sizeOf, typeInfo, hq, hn, storeCells, hl]
theorem infoSz : (Tryz.prog.info? 9).map (·.size) = some 1 := by kernel_rfl
def blankS (n : Nat) : Array Value := madeCells (Value.cells (.string .empty)) (n * 1)
theorem blankS_size (n : Nat) : (blankS n).size = n := by simp [blankS, madeCells]
theorem blankS_at (n j : Nat) (hj : j < n) : (blankS n)[j]? = some (.string ⟨#[]⟩) := by
  simp only [blankS, madeCells, Value.cells, Array.getElem?_map]
  rw [Array.getElem?_eq_getElem (by simpa using hj)]
  simp only [Array.getElem_range, Option.map_some]
  show some (#[Value.string ByteArray.empty][j % 1]!) = _
  rw [Nat.mod_one]
  rfl
theorem makeS (m : Nat) (hm : m ≤ 2147483647) (w : World) : (Instr.makeSlice 38 (.int .i64 ((m : Int) + 2)) (.int .i64 ((m : Int) + 2))).run Tryz.prog w = .ok (.slice (some ⟨w.heap.size, 0, none⟩) (m + 2) (m + 2)) (w.alloc (.cells (blankS (m + 2)) 9)) := by
  obtain ⟨i, hi, he⟩ := Option.map_eq_some_iff.1 infoStr
  simp only [Prod.mk.injEq] at he
  obtain ⟨hz, h1, h8⟩ := he
  have h := run_make (P := Tryz.prog) w 38 9 i (.string .empty) Tryz.underlying38 hi hz .i64 .i64 ((m : Int) + 2) ((m : Int) + 2) (by omega) (by omega) (by rw [h8]; omega) (by omega)
  rw [h, h1, show ((m : Int) + 2).toNat = m + 2 by omega]
  rfl
def spareS : List UInt8 := [115, 112, 97, 114, 101]
/-- The texts, and what stands behind them. -/
def lentL (l : List (List UInt8)) : List (List UInt8) := l ++ [spareS, []]
theorem lentL_len (l : List (List UInt8)) : (lentL l).length = l.length + 2 := by simp [lentL]
theorem flat_st (l : List (List UInt8)) (j : Nat) : (rw.flat stC l)[j]? = (l[j]?).map fun x => .string (B x) := by
  have e : rw.flat stC l = l.map fun x => .string (B x) := by
    unfold rw.flat
    induction l with
    | nil => rfl
    | cons a r ih => rw [List.flatMap_cons, ih]; rfl
  rw [e, List.getElem?_map]
theorem flat_stl (l : List (List UInt8)) : (rw.flat stC l).length = l.length := by rw [rw.flat_len stC_len, Nat.mul_one]
theorem lies_copied {g m : Nat} {w : World} {l : List (List UInt8)} (hl : l.length = m) (h : w.heap[g]? = some (.cells ((rw.flat stC l) ++ (blankS (m + 2)).toList.drop (rw.flat stC l).length).toArray 9 (0, 0))) : LieS g w (l ++ [[], []]) := by
  refine ⟨_, h, by simp [flat_stl, hl, blankS_size], fun j x hj => ?_⟩
  rw [List.getElem?_toArray]
  by_cases hlt : j < l.length
  · rw [List.getElem?_append_left hlt] at hj
    rw [List.getElem?_append_left (by rw [flat_stl]; exact hlt), flat_st, hj]
    rfl
  · rw [List.getElem?_append_right (by omega)] at hj
    rw [List.getElem?_append_right (by rw [flat_stl]; omega), flat_stl]
    have hj2 : j - l.length < 2 := (List.getElem?_eq_some_iff.1 hj).1
    have hx : x = [] := by
      have hc : j - l.length = 0 ∨ j - l.length = 1 := by omega
      rcases hc with hc | hc
      · rw [hc] at hj; simpa using hj.symm
      · rw [hc] at hj; simpa using hj.symm
    rw [hx, List.getElem?_drop, show l.length + (j - l.length) = j by omega, Array.getElem?_toList]
    exact blankS_at _ _ (by omega)
theorem lies_lent {g m : Nat} {w : World} {l : List (List UInt8)} (hl : l.length = m) (h : LieS g w (l ++ [[], []])) : LieS g (w.setCell ⟨g, m, none⟩ (.string ⟨#[115, 112, 97, 114, 101]⟩)) (lentL l) := by
  have := h.set (m := m) (a := spareS) (by simp [hl])
  rw [List.set_append_right _ _ (by omega), hl, Nat.sub_self] at this
  exact this

set_option maxHeartbeats 2000000 in
set_option maxRecDepth 100000 in
theorem lent_any (p : Option Addr) (m c : Nat) (l : List (List UInt8)) (hm : m ≤ 2147483647) (w : World) (h : Sts w (.slice p m c) l) :
    Calls Tryz.prog 26 #[.slice p m c] w fun e w' => e = .returned (.slice (some ⟨w.heap.size, 0, none⟩) (m + 2) (m + 2)) ∧ LieS w.heap.size w' (lentL l) ∧ Below w.heap.size w w' := by
  obtain ⟨hlen, hmc, hptr⟩ := h.ptr
  have hms := makeS m hm w
  obtain ⟨W0, hW0⟩ : ∃ W0, W0 = w.alloc (.cells (blankS (m + 2)) 9) := ⟨_, rfl⟩
  have hb0 : Below w.heap.size w W0 := by rw [hW0]; exact (Below.refl _ w).alloc (Nat.le_refl _) _
  have hg : W0.heap[w.heap.size]? = some (.cells (blankS (m + 2)) 9 (0, 0)) := by rw [hW0]; exact heap_alloc_new w _
  have hpl : (rw.flat stC l).length = m := by rw [flat_stl, hlen]
  have hcp : ∃ w3, (Builtin.copy_ #[38, 38] 3 #[.slice (some ⟨w.heap.size, 0, none⟩) (m + 2) (m + 2), .slice p m c]).run Tryz.prog W0 = .ok (goInt m) w3 ∧ LieS w.heap.size w3 (l ++ [[], []]) ∧ Below w.heap.size W0 w3 := by
    by_cases h0 : m = 0
    · subst h0
      obtain rfl : l = [] := List.eq_nil_of_length_eq_zero hlen
      refine ⟨W0, ?_, ?_, Below.refl _ _⟩
      · exact run_copy_s0 (P := Tryz.prog) W0 38 38 3 9 _ p _ _ _ _ 1 Tryz.underlying38 infoSz (by rfl)
      · exact lies_copied (l := []) rfl (by rw [hg]; simp [rw.flat])
    · obtain ⟨b, o, rfl, hbl⟩ := hptr (by omega)
      refine ⟨_, run_copy_s (P := Tryz.prog) W0 38 38 3 9 w.heap.size _ _ ⟨b, o, none⟩ _ _ (blankS (m + 2)) 9 (rw.flat stC l) m Tryz.underlying38 infoSz (Nat.min_eq_left (by omega)) hg hpl (fun j v hj => ?_) (by rw [hpl, blankS_size]; omega) (rw.flat_one stC_one l), ?_, below_setRow (Below.refl _ _) (Nat.le_refl _) _⟩
      · rw [flat_st] at hj
        obtain ⟨x, hx, rfl⟩ := Option.map_eq_some_iff.1 hj
        rw [ls.addN]
        exact (hb0.cell (p := ⟨b, o + j, none⟩) hbl).trans (st_cell h hx)
      · exact lies_copied hlen (setRow_heap W0 _ _ _ _ _ hg)
  obtain ⟨w3, hcopy, hL3, hb3⟩ := hcp
  have hsz3 := hb3.size
  have hsz0 : W0.heap.size = w.heap.size + 1 := by rw [hW0]; simp
  obtain ⟨cs3, hg3, hcs3⟩ : ∃ cs3, w3.heap[w.heap.size]? = some (.cells cs3 9 (0, 0)) ∧ m + 2 ≤ cs3.size := by
    obtain ⟨cs3, h1, h2, _⟩ := hL3
    exact ⟨cs3, h1, by simpa [hlen] using h2⟩
  have c0 : w3.cell? ⟨w.heap.size, m, none⟩ = some cs3[m] := by rw [cell_in hg3, Array.getElem?_eq_getElem]
  have f0 : w3.frozen? ⟨w.heap.size, m, none⟩ = false := free_in hg3
  have HLn := Lib.hid (lies_lent hlen hL3)
  have HB := Lib.hid ((hb0.trans (hb3.mono (Nat.le_refl _))).setCell (p := ⟨w.heap.size, m, none⟩) (Nat.le_refl _) (.string ⟨#[115, 112, 97, 114, 101]⟩))
  have hgo : goInt (m : Int) = .int .i64 m := rfl
  generalize cs3[m] = old at c0
  clear hg3 hcs3 hL3 hb3 hb0 hg hpl hptr h hlen
  subst hW0
  go_enter Tryz.func26, Tryz.ntmps26
  go_wp2_with fail
  go_ret
  exact ⟨rfl, HLn.out, HB.out⟩
theorem lent_take {g m : Nat} {w : World} {l : List (List UInt8)} (hl : l.length = m) (h : LieS g w (lentL l)) : Sts w (.slice (some ⟨g, 0, none⟩) m (m + 2)) l := by
  have h2 := h.sts (n := m) (c := m + 2) (by rw [lentL_len]; omega) (by omega)
  have e : (lentL l).take m = l := by unfold lentL; rw [List.take_append_of_le_length (by omega), List.take_of_length_le (by omega)]
  rwa [e] at h2
set_option maxHeartbeats 2000000 in
set_option maxRecDepth 100000 in
theorem whole_any (g : Nat) (p : Option Addr) (m c : Nat) (l : List (List UInt8)) (hm : m ≤ 2147483647) (w : World) (hL : LieS g w (lentL l)) (h : Sts w (.slice p m c) l) :
    Calls Tryz.prog 28 #[.slice (some ⟨g, 0, none⟩) (m + 2) (m + 2), .slice p m c] w fun e w' => e = .returned (.bool true) ∧ Upd [g] w w' := by
  obtain ⟨hlen, hmc, hptr⟩ := h.ptr
  have hglt := hL.lt
  have HL := Lib.hid hL
  have HS := Lib.hid h
  have Hptr := Lib.hid hptr
  have Hlen := Lib.hid hlen
  have k0 : w.cell? ⟨g, m, none⟩ = some (.string ⟨#[115, 112, 97, 114, 101]⟩) := hL.cell (x := spareS) (by unfold lentL; rw [List.getElem?_append_right (by omega), hlen, Nat.sub_self]; rfl)
  have k1 : w.cell? ⟨g, m + 1, none⟩ = some (.string ⟨#[]⟩) := hL.cell (x := []) (by unfold lentL; rw [List.getElem?_append_right (by omega), hlen, show m + 1 - m = 1 by omega]; rfl)
  clear hL h hlen hptr
  go_enter Tryz.func28, Tryz.ntmps28
  go_wp2_with fail
  go_loopw [5, 6] (fun vo vi wr => ∃ j q : Nat, j ≤ m ∧ vi = .int .i64 j ∧ vo = .bool true ∧ wr = w.drewN q) (fun _ vi _ => m - (intOf vi).toNat)
  case atStart => exact ⟨0, 0, by omega, rfl, rfl, rfl⟩
  case round =>
    clear k0 k1
    obtain ⟨j, q, hj, rfl, rfl, hwr⟩ := hrel
    have Hq := Lib.hid hwr
    have hbq : Below w.heap.size w wr := by rw [hwr]; exact drewN_bel w q
    have Hbq := Lib.hid hbq
    have hzq : w.heap.size ≤ wr.heap.size := hbq.size
    clear hwr hbq
    by_cases hlt : j < m
    · obtain ⟨b, o, rfl, hbl⟩ := Hptr.out (by omega)
      obtain ⟨x, hx⟩ : ∃ x, l[j]? = some x := ⟨_, List.getElem?_eq_getElem (by rw [Hlen.out]; exact hlt)⟩
      have c0 := st_cell (HS.out.later Hbq.out) hx
      have c1 : wr.cell? ⟨g, j, none⟩ = some (.string (B x)) := (HL.out.later Hbq.out).cell (by unfold lentL; rw [List.getElem?_append_left (by rw [Hlen.out]; exact hlt)]; exact hx)
      have hbr : b < wr.heap.size := by omega
      have hgr : g < wr.heap.size := by omega
      have hji : (j : Int) < (m : Int) := by omega
      have hji2 : (j : Int) < (m : Int) + 2 := by omega
      have hj0 : (0 : Int) ≤ (j : Int) := by omega
      clear hx
      generalize B x = xb at *
      go_wp2_with fail
      go_quiet (fail)
      rename_i nq
      go_wp2_with fail
      go_roundw
      case rel => exact ⟨j + 1, q + nq, by omega, by go_num, rfl, by rw [Hq.out, World.drewN_drewN]⟩
      case measure => simp [intOf]; omega
    · obtain rfl : j = m := by omega
      obtain ⟨w1, hw1⟩ : ∃ w1, w1 = wr := ⟨_, rfl⟩
      have HL1 := Lib.hid (HL.out.later Hbq.out)
      have HU1 : Hid (Upd [g] w w1) := Lib.hid (by rw [hw1]; exact Upd.of_below Hbq.out _)
      obtain ⟨cs, hg, hcs⟩ : ∃ cs, w1.heap[g]? = some (.cells cs 9 (0, 0)) ∧ j + 2 ≤ cs.size := by
        rw [hw1]
        obtain ⟨cs, h1, h2, _⟩ := HL1.out
        rw [lentL_len, Hlen.out] at h2
        exact ⟨cs, h1, h2⟩
      have Hg := Lib.hid hg
      rw [← hw1]
      clear hw1 hg HL1 Hbq Hq HS HL
      go_wp2_with fail
      go_loopw [7] (fun i wr => ∃ (t : Nat) (cs : Array Value), t ≤ j + 2 ∧ i = .int .i64 t ∧ Hid (wr.heap[g]? = some (.cells cs 9 (0, 0))) ∧ j + 2 ≤ cs.size ∧ Hid (Upd [g] w wr)) (fun i _ => j + 2 - (intOf i).toNat)
      case atStart => exact ⟨0, cs, by omega, rfl, Hg, hcs, HU1⟩
      case round =>
        clear Hg HU1 hcs
        obtain ⟨wx, rfl⟩ : ∃ wx, wx = wr := ⟨_, rfl⟩
        obtain ⟨t, cs, ht, rfl, Hg, hcs, Hb⟩ := hrel
        by_cases hlt2 : t < j + 2
        · have hsz := Hb.out.size
          have hgr : g < wx.heap.size := by omega
          have d0 : wx.cell? ⟨g, t, none⟩ = some (cs[t]?.getD undef) := by
            rw [cell_in Hg.out, Array.getElem?_eq_getElem (by omega)]
            rfl
          have e0 : wx.frozen? ⟨g, t, none⟩ = false := free_in Hg.out
          generalize cs[t]?.getD undef = o0 at d0
          have hji : (t : Int) < (j : Int) + 2 := by omega
          have hj5 : (0 : Int) ≤ (t : Int) := by omega
          go_wp2_with fail
          go_roundw
          case rel => exact ⟨t + 1, _, by omega, by go_num, Lib.hid (heap_set Hg.out _), by simpa using hcs, Lib.hid (Hb.out.setCell (p := ⟨g, t, none⟩) (.inl (by simp)) _)⟩
          case measure => simp [intOf]; omega
        · obtain rfl : t = j + 2 := by omega
          have hdec : decide (((j + 2 : Nat) : Int) < (j : Int) + 2) = false := by simp
          go_wp2_with fail
          go_ret
          exact ⟨rfl, Hb.out⟩
end Go.Proofs.YtpfhhaonfbfheaaGreatDoor.en
/- tinderboxlaw08.EnvParses: laws on memory: the lists that came out, in a row, beside the lists they are compared with. No walk; no conditions. -/
namespace Go.Proofs.YtpfhhaonfbfheaaGreatDoor.en
open Go.ChangeShapes Go.WideShapes Go.ChangeAt Go.RowKit gl va

theorem gvs_hold {M : Nat} {w : World} {i q : Nat} {R : ls.LR} {l : List Gv} {mk : Nat → List Value} (h : NewGvs M w R.v l) (hl : l.length ≤ 4294967295) (hq : q = 0) : ls.HoldR 35 3 mk M w.heap.size w i R q := by
  obtain ⟨p, n, c⟩ := R
  rcases h with ⟨rfl, h⟩ | ⟨g, c', cs, h, hc, hg, hb, hcs, _⟩
  · simp only [ls.LR.v, Value.slice.injEq] at h
    obtain ⟨rfl, rfl, rfl⟩ := h
    exact ⟨by simp, Nat.le_refl _, .inl ⟨rfl, rfl, rfl⟩⟩
  · simp only [ls.LR.v, Value.slice.injEq] at h
    obtain ⟨rfl, rfl, rfl⟩ := h
    exact ⟨hl, hc, .inr ⟨g, cs, rfl, hg, lt_of_block hb, hb, hcs, fun j hj => by omega⟩⟩

structure PL (M : Nat) (w : World) (k : Nat) (pl : Option Addr) (cl : Nat) (pw : Option Addr) (cw : Nat) (rs : List ls.LR) (lss : List (List Gv)) (vw : List Value) : Prop where
  ownl : w.ownsRow M 31 1 (.slice pl k cl) k (rs.map ls.LR.v)
  ownw : w.ownsRow M 31 1 (.slice pw k cw) k vw
  apart : ∀ g, (Value.slice pl k cl).ownBlock = some g → (Value.slice pw k cw).ownBlock ≠ some g
  len : lss.length = k
  dist : ls.Dist rs
  news : ∀ (i : Nat) (R : ls.LR) (l : List Gv), rs[i]? = some R → lss[i]? = some l → NewGvs M w R.v l ∧ l.length ≤ 4294967295
  wants : ∀ (i : Nat) (v : Value) (l : List Gv), vw[i]? = some v → lss[i]? = some l → NewGvs M w v l
theorem own_other {w w' : World} {base n size : Nat} {e : TypeId} {v : Value} {xs : List Value} {row : Option Nat} (ho : w.ownsRow base e size v n xs) (hg : w.grownBy w' row) (hr : ∀ g, v.ownBlock = some g → row ≠ some g) : w'.ownsRow base e size v n xs :=
  (Upd.of_grown (S := row.toList) hg (fun k hk => by rw [hk]; simp)).row ho fun g hgb hm => hr g hgb (by simpa using hm)
theorem PL.start (M : Nat) (w : World) : PL M w 0 none 0 none 0 [] [] [] :=
  ⟨⟨rfl, .inl ⟨rfl, rfl⟩⟩, ⟨rfl, .inl ⟨rfl, rfl⟩⟩, fun g h => (by cases h), rfl, fun i j Ri Rj g h => (by simp at h), fun i R xs h => (by simp at h), fun i v xs h => (by simp at h)⟩
theorem PL.keep {M : Nat} {w w' : World} {k cl cw : Nat} {pl pw : Option Addr} {rs : List ls.LR} {lss : List (List Gv)} {vw : List Value} (h : PL M w k pl cl pw cw rs lss vw) (hb : Below w.heap.size w w') : PL M w' k pl cl pw cw rs lss vw :=
  ⟨ls.own_kept h.ownl hb, ls.own_kept h.ownw hb, h.apart, h.len, h.dist, fun i R xs h1 h2 => ⟨(h.news i R xs h1 h2).1.later hb, (h.news i R xs h1 h2).2⟩, fun i v xs h1 h2 => (h.wants i v xs h1 h2).later hb⟩
theorem PL.fresh {M : Nat} {w w' : World} {k cl cw : Nat} {pl pw : Option Addr} {rs : List ls.LR} {lss : List (List Gv)} {vw : List Value} (h : PL M w k pl cl pw cw rs lss vw) {R : ls.LR} {l : List Gv} (hR : NewGvs w.heap.size w' R.v l) :
    ∀ (i : Nat) (S : ls.LR) (g : Nat), rs[i]? = some S → S.p = some ⟨g, 0, none⟩ → R.p ≠ some ⟨g, 0, none⟩ := by
  intro i S g hS hp e
  obtain ⟨p, n, c⟩ := R
  have hrl : rs.length = k := by have := h.ownl.1; simpa using this
  have hi := ls.lt_get hS
  obtain ⟨xs, hx⟩ : ∃ xs, lss[i]? = some xs := ⟨_, List.getElem?_eq_getElem (by rw [h.len]; omega)⟩
  rcases hR with ⟨_, h1⟩ | ⟨q, c', cs, h1, _, h2, _⟩
  · simp only [ls.LR.v, Value.slice.injEq] at h1
    rw [h1.1] at e; cases e
  · simp only [ls.LR.v, Value.slice.injEq] at h1
    simp only [h1.1] at e
    obtain rfl : q = g := by simpa using e
    obtain ⟨p', n', c2⟩ := S
    rcases (h.news i _ xs hS hx).1 with ⟨_, h3⟩ | ⟨q', c3, cs', h3, _, _, h4, _⟩
    · simp only [ls.LR.v, Value.slice.injEq] at h3
      simp only [h3.1] at hp; cases hp
    · simp only [ls.LR.v, Value.slice.injEq] at h3
      simp only [h3.1] at hp
      obtain rfl : q' = q := by simpa using hp
      have := lt_of_block h4
      omega
theorem PL.wantAt {M : Nat} {w wa : World} {k cl cw : Nat} {pl pw : Option Addr} {rs : List ls.LR} {lss : List (List Gv)} {vw : List Value}
    (h : PL M w k pl cl pw cw rs lss vw) (hga : w.grownBy wa (Value.slice pl k cl).ownBlock) : wa.ownsRow M 31 1 (.slice pw k cw) k vw := own_other h.ownw hga fun g hg e => h.apart g e hg
/-- One list more, in two appends. -/
theorem PL.next {M : Nat} {w wa wb : World} {k cl cw ga gb ca cb : Nat} {pl pw : Option Addr} {rs : List ls.LR} {lss : List (List Gv)} {vw : List Value} {R : ls.LR} {l : List Gv} {v : Value}
    (h : PL M w k pl cl pw cw rs lss vw) (hR : NewGvs M w R.v l) (hRn : l.length ≤ 4294967295) (hRd : ∀ (i : Nat) (S : ls.LR) (g : Nat), rs[i]? = some S → S.p = some ⟨g, 0, none⟩ → R.p ≠ some ⟨g, 0, none⟩) (hvx : NewGvs M w v l)
    (oa : wa.ownsRow M 31 1 (.slice (some ⟨ga, 0, none⟩) (k + 1) ca) (k + 1) (rs.map ls.LR.v ++ [R.v])) (hga : w.grownBy wa (Value.slice pl k cl).ownBlock) (hat : (Value.slice pl k cl).ownBlock = some ga ∨ w.heap.size ≤ ga) (hgl : ga < wa.heap.size)
    (ob : wb.ownsRow M 31 1 (.slice (some ⟨gb, 0, none⟩) (k + 1) cb) (k + 1) (vw ++ [v])) (hgb : wa.grownBy wb (Value.slice pw k cw).ownBlock) (hbt : (Value.slice pw k cw).ownBlock = some gb ∨ wa.heap.size ≤ gb) :
    PL M wb (k + 1) (some ⟨ga, 0, none⟩) ca (some ⟨gb, 0, none⟩) cb (rs ++ [R]) (lss ++ [l]) (vw ++ [v]) := by
  have k1 : ls.SK 35 w wa := ls.SK.own (by decide) h.ownl hga
  have ow : wa.ownsRow M 31 1 (.slice pw k cw) k vw := own_other h.ownw hga fun g hg e => h.apart g e hg
  have k2 : ls.SK 35 wa wb := ls.SK.own (by decide) ow hgb
  have kk := k1.trans k2
  have hne : ∀ g, (Value.slice pw k cw).ownBlock = some g → g ≠ ga := by
    rintro g hg rfl
    rcases hat with h1 | h1
    · exact h.apart g h1 hg
    · have := (h.ownw.lt g hg).2; omega
  have ol : wb.ownsRow M 31 1 (.slice (some ⟨ga, 0, none⟩) (k + 1) ca) (k + 1) (rs.map ls.LR.v ++ [R.v]) := own_other oa hgb fun g hg e => hne g e (by cases hg; rfl)
  have hrl : rs.length = k := by have := h.ownl.1; simpa using this
  have hvl : vw.length = k := by have := h.ownw.1; simpa using this
  refine ⟨by rw [List.map_append]; exact ol, ob, ?_, by rw [List.length_append, h.len]; rfl, ?_, ?_, ?_⟩
  · intro g hg e
    cases hg
    cases e
    rcases hbt with h1 | h1
    · exact hne _ h1 rfl
    · omega
  · intro i j Ri Rj g hi hj hpi hpj
    rcases ls.get_snoc hi with hi2 | ⟨e1, e2⟩
    · rcases ls.get_snoc hj with hj2 | ⟨e3, e4⟩
      · exact h.dist i j Ri Rj g hi2 hj2 hpi hpj
      · rw [e4] at hpj
        exact absurd hpj (hRd i Ri g hi2 hpi)
    · rcases ls.get_snoc hj with hj2 | ⟨e3, e4⟩
      · rw [e2] at hpi
        exact absurd hpi (hRd j Rj g hj2 hpj)
      · rw [e1, e3]
  · intro i S ys hS hy
    rcases ls.get_snoc hS with hS | ⟨rfl, rfl⟩
    · rcases ls.get_snoc hy with hy | ⟨h1, rfl⟩
      · exact ⟨(h.news i S ys hS hy).1.keep kk, (h.news i S ys hS hy).2⟩
      · have := ls.lt_get hS; rw [h.len] at h1; omega
    · rcases ls.get_snoc hy with hy | ⟨h1, rfl⟩
      · have := ls.lt_get hy; rw [h.len] at this; omega
      · exact ⟨hR.keep kk, hRn⟩
  · intro i u ys hu hy
    rcases ls.get_snoc hu with hu | ⟨rfl, rfl⟩
    · rcases ls.get_snoc hy with hy | ⟨h1, rfl⟩
      · exact (h.wants i u ys hu hy).keep kk
      · have := ls.lt_get hu; rw [h.len] at h1; omega
    · rcases ls.get_snoc hy with hy | ⟨h1, rfl⟩
      · have := ls.lt_get hy; rw [h.len] at this; omega
      · exact hvx.keep kk
/-- The rows, as blocks. -/
theorem PL.rowL {M : Nat} {w : World} {k cl cw : Nat} {pl pw : Option Addr} {rs : List ls.LR} {lss : List (List Gv)} {vw : List Value} (h : PL M w k pl cl pw cw rs lss vw) (hk : 0 < k) :
    ∃ gl, pl = some ⟨gl, 0, none⟩ ∧ k ≤ cl ∧ M ≤ gl ∧ ls.LRow 31 w gl rs := by
  have hrl : rs.length = k := by have := h.ownl.1; simpa using this
  rcases h.ownl.2 with ⟨_, h0⟩ | ⟨gl, cap, cur, hv, hg, hbl, hnc, _, _, htake⟩
  · omega
  · cases hv
    refine ⟨gl, rfl, hnc, hg, cur, hbl, fun i R hR => ?_⟩
    have h1 : (rs.map ls.LR.v)[i]? = some R.v := by rw [List.getElem?_map, hR]; rfl
    have := ls.lt_get hR
    rw [← htake, List.getElem?_take_of_lt (by omega)] at h1
    rwa [Array.getElem?_toList] at h1
theorem PL.rowW {M : Nat} {w : World} {k cl cw : Nat} {pl pw : Option Addr} {rs : List ls.LR} {lss : List (List Gv)} {vw : List Value} (h : PL M w k pl cl pw cw rs lss vw) (hk : 0 < k) :
    ∃ gw, pw = some ⟨gw, 0, none⟩ ∧ k ≤ cw ∧ gw < w.heap.size ∧ ∀ (i : Nat) (l : List Gv), lss[i]? = some l → ∃ p c, w.cell? ⟨gw, i, none⟩ = some (.slice p l.length c) ∧ Gvs w (.slice p l.length c) l := by
  have hvl : vw.length = k := by have := h.ownw.1; simpa using this
  rcases h.ownw.2 with ⟨_, h0⟩ | ⟨gw, capw, curw, hvw, _, hbw, hncw, _⟩
  · omega
  · cases hvw
    refine ⟨gw, rfl, hncw, lt_of_block hbw, fun i l hx => ?_⟩
    have hi := ls.lt_get hx
    rw [h.len] at hi
    obtain ⟨v, hv⟩ : ∃ v, vw[i]? = some v := ⟨_, List.getElem?_eq_getElem (by omega)⟩
    have hs := h.wants i v l hv hx
    have hc := h.ownw.cells (g := gw) rfl i v hv
    rw [ls.addN, Nat.zero_add] at hc
    obtain ⟨p, c, rfl⟩ := hs.form
    exact ⟨p, c, hc, hs.rw gvC_len⟩
theorem PL.holds {M : Nat} {w : World} {k cl cw : Nat} {pl pw : Option Addr} {rs : List ls.LR} {lss : List (List Gv)} {vw : List Value} {mk : Nat → List Value} (h : PL M w k pl cl pw cw rs lss vw) : ls.Hold 35 3 mk M w.heap.size w rs 0 (ls.cntAt 0 0) := by
  intro i R _ hR
  have hrl : rs.length = k := by have := h.ownl.1; simpa using this
  have hi := ls.lt_get hR
  obtain ⟨xs, hx⟩ : ∃ xs, lss[i]? = some xs := ⟨_, List.getElem?_eq_getElem (by rw [h.len]; omega)⟩
  obtain ⟨h1, h2⟩ := h.news i R xs hR hx
  refine gvs_hold h1 h2 ?_
  unfold ls.cntAt
  rw [if_neg (by omega)]
  split <;> rfl
theorem PL.lists {M : Nat} {w : World} {k cl cw : Nat} {pl pw : Option Addr} {rs : List ls.LR} {lss : List (List Gv)} {vw : List Value} (h : PL M w k pl cl pw cw rs lss vw) (i : Nat) (R : ls.LR) (l : List Gv) (h1 : rs[i]? = some R) (h2 : lss[i]? = some l) : Gvs w R.v l := (h.news i R l h1 h2).1.rw gvC_len
end Go.Proofs.YtpfhhaonfbfheaaGreatDoor.en
