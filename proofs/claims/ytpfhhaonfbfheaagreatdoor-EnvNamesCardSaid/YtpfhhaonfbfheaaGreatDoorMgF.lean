/- Laws and contracts on which the statement rests, part F: each text says what it proves, and its conditions. -/
import Derived.Test.YtpfhhaonfbfheaaGreatDoorMgE
import Derived.Test.YtpfhhaonfbfheaaGreatDoorMgD
/- Package key: the lists that stand, a set of several lists, the standard set. Conditions: the listed variables hold what the program's text lays. -/
namespace Go.Proofs.YtpfhhaonfbfheaaGreatDoor.ky
open Go.ChangeShapes Go.WideShapes Go.ChangeAt Go.RowKit gl va ls

theorem kys_lit {w : World} {g : Nat} {l : List Ky} {cs : Array Value} (h : w.heap[g]? = some (.cells cs 62 (0, 0))) (hc : cs.toList = rw.flat kyC l) : Kys w (.slice (some ⟨g, 0, none⟩) l.length l.length) l := by
  refine ⟨_, _, rfl, Nat.le_refl _, .inr ⟨g, 0, rfl, lt_of_block h, fun j x hx i u hu => ?_⟩⟩
  rw [cell_in h, Nat.zero_add, ← Array.getElem?_toList, hc]
  exact rw.flat_at kyC_len l j x i u hx hu
set_option maxRecDepth 100000 in
theorem log_any (w : World) : Calls Tryz.prog 34 #[] w fun e w' => (∃ p, e = .returned (.slice p 3 3) ∧ Kys w' (.slice p 3 3) logK) ∧ Below w.heap.size w w' := by
  have Hb : Hid (Below w.heap.size w (w.alloc (.cells #[.string ⟨#[108, 111, 103, 46, 102, 105, 108, 101]⟩, .int .i64 5, .string ⟨#[36, 123, 115, 116, 111, 114, 101, 46, 100, 105, 114, 125, 47, 108, 111, 103]⟩, .int .i64 0, .int .i64 0, .string ⟨#[]⟩, .string ⟨#[108, 111, 103, 46, 107, 101, 101, 112]⟩, .int .i64 4, .string ⟨#[55, 100]⟩, .int .i64 1, .int .i64 2592000, .string ⟨#[]⟩, .string ⟨#[108, 111, 103, 46, 108, 101, 118, 101, 108]⟩, .int .i64 2, .string ⟨#[50]⟩, .int .i64 0, .int .i64 5, .string ⟨#[118]⟩] 62))) := Lib.hid ((Below.refl _ _).alloc (Nat.le_refl _) _)
  have HK : Hid (Kys (w.alloc (.cells #[.string ⟨#[108, 111, 103, 46, 102, 105, 108, 101]⟩, .int .i64 5, .string ⟨#[36, 123, 115, 116, 111, 114, 101, 46, 100, 105, 114, 125, 47, 108, 111, 103]⟩, .int .i64 0, .int .i64 0, .string ⟨#[]⟩, .string ⟨#[108, 111, 103, 46, 107, 101, 101, 112]⟩, .int .i64 4, .string ⟨#[55, 100]⟩, .int .i64 1, .int .i64 2592000, .string ⟨#[]⟩, .string ⟨#[108, 111, 103, 46, 108, 101, 118, 101, 108]⟩, .int .i64 2, .string ⟨#[50]⟩, .int .i64 0, .int .i64 5, .string ⟨#[118]⟩] 62)) (.slice (some ⟨w.heap.size, 0, none⟩) 3 3) logK) := Lib.hid (kys_lit (l := logK) (heap_alloc_new w _) rfl)
  go_enter Tryz.func34, Tryz.ntmps34
  go_wp2_with fail
  go_ret
  exact ⟨⟨_, rfl, HK.out⟩, Hb.out⟩
set_option maxRecDepth 100000 in
theorem net_any (w : World) : Calls Tryz.prog 35 #[] w fun e w' => (∃ p, e = .returned (.slice p 5 5) ∧ Kys w' (.slice p 5 5) netK) ∧ Below w.heap.size w w' := by
  have Hb : Hid (Below w.heap.size w (w.alloc (.cells #[.string ⟨#[110, 101, 116, 46, 104, 111, 115, 116]⟩, .int .i64 5, .string ⟨#[108, 111, 99, 97, 108, 104, 111, 115, 116]⟩, .int .i64 0, .int .i64 0, .string ⟨#[]⟩, .string ⟨#[110, 101, 116, 46, 112, 101, 101, 114, 115]⟩, .int .i64 6, .string ⟨#[]⟩, .int .i64 0, .int .i64 16, .string ⟨#[]⟩, .string ⟨#[110, 101, 116, 46, 112, 111, 114, 116]⟩, .int .i64 2, .string ⟨#[56, 48, 56, 48]⟩, .int .i64 1, .int .i64 65535, .string ⟨#[112]⟩, .string ⟨#[110, 101, 116, 46, 116, 105, 109, 101, 111, 117, 116]⟩, .int .i64 4, .string ⟨#[51, 48, 115]⟩, .int .i64 1, .int .i64 3600, .string ⟨#[]⟩, .string ⟨#[110, 101, 116, 46, 117, 114, 108]⟩, .int .i64 5, .string ⟨#[104, 116, 116, 112, 58, 47, 47, 36, 123, 110, 101, 116, 46, 104, 111, 115, 116, 125, 58, 36, 123, 110, 101, 116, 46, 112, 111, 114, 116, 125]⟩, .int .i64 0, .int .i64 0, .string ⟨#[]⟩] 62))) := Lib.hid ((Below.refl _ _).alloc (Nat.le_refl _) _)
  have HK : Hid (Kys (w.alloc (.cells #[.string ⟨#[110, 101, 116, 46, 104, 111, 115, 116]⟩, .int .i64 5, .string ⟨#[108, 111, 99, 97, 108, 104, 111, 115, 116]⟩, .int .i64 0, .int .i64 0, .string ⟨#[]⟩, .string ⟨#[110, 101, 116, 46, 112, 101, 101, 114, 115]⟩, .int .i64 6, .string ⟨#[]⟩, .int .i64 0, .int .i64 16, .string ⟨#[]⟩, .string ⟨#[110, 101, 116, 46, 112, 111, 114, 116]⟩, .int .i64 2, .string ⟨#[56, 48, 56, 48]⟩, .int .i64 1, .int .i64 65535, .string ⟨#[112]⟩, .string ⟨#[110, 101, 116, 46, 116, 105, 109, 101, 111, 117, 116]⟩, .int .i64 4, .string ⟨#[51, 48, 115]⟩, .int .i64 1, .int .i64 3600, .string ⟨#[]⟩, .string ⟨#[110, 101, 116, 46, 117, 114, 108]⟩, .int .i64 5, .string ⟨#[104, 116, 116, 112, 58, 47, 47, 36, 123, 110, 101, 116, 46, 104, 111, 115, 116, 125, 58, 36, 123, 110, 101, 116, 46, 112, 111, 114, 116, 125]⟩, .int .i64 0, .int .i64 0, .string ⟨#[]⟩] 62)) (.slice (some ⟨w.heap.size, 0, none⟩) 5 5) netK) := Lib.hid (kys_lit (l := netK) (heap_alloc_new w _) rfl)
  go_enter Tryz.func35, Tryz.ntmps35
  go_wp2_with fail
  go_ret
  exact ⟨⟨_, rfl, HK.out⟩, Hb.out⟩
set_option maxRecDepth 100000 in
theorem store_any (w : World) : Calls Tryz.prog 36 #[] w fun e w' => (∃ p, e = .returned (.slice p 4 4) ∧ Kys w' (.slice p 4 4) storeK) ∧ Below w.heap.size w w' := by
  have Hb : Hid (Below w.heap.size w (w.alloc (.cells #[.string ⟨#[115, 116, 111, 114, 101, 46, 98, 108, 111, 99, 107, 115]⟩, .int .i64 2, .string ⟨#[54, 52]⟩, .int .i64 8, .int .i64 4096, .string ⟨#[98]⟩, .string ⟨#[115, 116, 111, 114, 101, 46, 99, 97, 99, 104, 101]⟩, .int .i64 3, .string ⟨#[52, 109]⟩, .int .i64 0, .int .i64 1073741824, .string ⟨#[99]⟩, .string ⟨#[115, 116, 111, 114, 101, 46, 100, 105, 114]⟩, .int .i64 5, .string ⟨#[47, 118, 97, 114, 47, 116, 105, 110, 100, 101, 114]⟩, .int .i64 0, .int .i64 0, .string ⟨#[100]⟩, .string ⟨#[115, 116, 111, 114, 101, 46, 112, 97, 103, 101]⟩, .int .i64 3, .string ⟨#[52, 107]⟩, .int .i64 512, .int .i64 65536, .string ⟨#[]⟩] 62))) := Lib.hid ((Below.refl _ _).alloc (Nat.le_refl _) _)
  have HK : Hid (Kys (w.alloc (.cells #[.string ⟨#[115, 116, 111, 114, 101, 46, 98, 108, 111, 99, 107, 115]⟩, .int .i64 2, .string ⟨#[54, 52]⟩, .int .i64 8, .int .i64 4096, .string ⟨#[98]⟩, .string ⟨#[115, 116, 111, 114, 101, 46, 99, 97, 99, 104, 101]⟩, .int .i64 3, .string ⟨#[52, 109]⟩, .int .i64 0, .int .i64 1073741824, .string ⟨#[99]⟩, .string ⟨#[115, 116, 111, 114, 101, 46, 100, 105, 114]⟩, .int .i64 5, .string ⟨#[47, 118, 97, 114, 47, 116, 105, 110, 100, 101, 114]⟩, .int .i64 0, .int .i64 0, .string ⟨#[100]⟩, .string ⟨#[115, 116, 111, 114, 101, 46, 112, 97, 103, 101]⟩, .int .i64 3, .string ⟨#[52, 107]⟩, .int .i64 512, .int .i64 65536, .string ⟨#[]⟩] 62)) (.slice (some ⟨w.heap.size, 0, none⟩) 4 4) storeK) := Lib.hid (kys_lit (l := storeK) (heap_alloc_new w _) rfl)
  go_enter Tryz.func36, Tryz.ntmps36
  go_wp2_with fail
  go_ret
  exact ⟨⟨_, rfl, HK.out⟩, Hb.out⟩
set_option maxRecDepth 100000 in
theorem boot_any (w : World) : Calls Tryz.prog 37 #[] w fun e w' => (∃ p, e = .returned (.slice p 4 4) ∧ Kys w' (.slice p 4 4) bootK) ∧ Below w.heap.size w w' := by
  have Hb : Hid (Below w.heap.size w (w.alloc (.cells #[.string ⟨#[98, 111, 111, 116, 46, 100, 114, 121]⟩, .int .i64 1, .string ⟨#[102, 97, 108, 115, 101]⟩, .int .i64 0, .int .i64 0, .string ⟨#[110]⟩, .string ⟨#[98, 111, 111, 116, 46, 108, 105, 109, 105, 116]⟩, .int .i64 2, .string ⟨#[48]⟩, .int .i64 0, .int .i64 1024, .string ⟨#[]⟩, .string ⟨#[98, 111, 111, 116, 46, 115, 101, 114, 118, 105, 99, 101, 115]⟩, .int .i64 6, .string ⟨#[108, 111, 103, 44, 110, 101, 116]⟩, .int .i64 0, .int .i64 16, .string ⟨#[115]⟩, .string ⟨#[98, 111, 111, 116, 46, 119, 111, 114, 107, 101, 114, 115]⟩, .int .i64 2, .string ⟨#[48]⟩, .int .i64 0, .int .i64 64, .string ⟨#[119]⟩] 62))) := Lib.hid ((Below.refl _ _).alloc (Nat.le_refl _) _)
  have HK : Hid (Kys (w.alloc (.cells #[.string ⟨#[98, 111, 111, 116, 46, 100, 114, 121]⟩, .int .i64 1, .string ⟨#[102, 97, 108, 115, 101]⟩, .int .i64 0, .int .i64 0, .string ⟨#[110]⟩, .string ⟨#[98, 111, 111, 116, 46, 108, 105, 109, 105, 116]⟩, .int .i64 2, .string ⟨#[48]⟩, .int .i64 0, .int .i64 1024, .string ⟨#[]⟩, .string ⟨#[98, 111, 111, 116, 46, 115, 101, 114, 118, 105, 99, 101, 115]⟩, .int .i64 6, .string ⟨#[108, 111, 103, 44, 110, 101, 116]⟩, .int .i64 0, .int .i64 16, .string ⟨#[115]⟩, .string ⟨#[98, 111, 111, 116, 46, 119, 111, 114, 107, 101, 114, 115]⟩, .int .i64 2, .string ⟨#[48]⟩, .int .i64 0, .int .i64 64, .string ⟨#[119]⟩] 62)) (.slice (some ⟨w.heap.size, 0, none⟩) 4 4) bootK) := Lib.hid (kys_lit (l := bootK) (heap_alloc_new w _) rfl)
  go_enter Tryz.func37, Tryz.ntmps37
  go_wp2_with fail
  go_ret
  exact ⟨⟨_, rfl, HK.out⟩, Hb.out⟩
/-- A row of lists. -/
def Rows4 (w : World) (g : Nat) (ls : List (List Ky)) : Prop := ∃ cs, w.heap[g]? = some (.cells cs 27 (0, 0)) ∧ ∀ (i : Nat) (l : List Ky), ls[i]? = some l → ∃ v, cs[i]? = some v ∧ Kys w v l
theorem Rows4.later {w w' : World} {g : Nat} {ls : List (List Ky)} (h : Rows4 w g ls) (hb : Below w.heap.size w w') : Rows4 w' g ls := by
  obtain ⟨cs, h1, h2⟩ := h
  refine ⟨cs, (hb.block g (lt_of_block h1)).trans h1, fun i l hl => ?_⟩
  obtain ⟨v, hv, hk⟩ := h2 i l hl
  exact ⟨v, hv, hk.later hb⟩
/-- A set may read what lies below it. -/
theorem add_step (S : List Ky) (l : List Ky) (j : Nat) (x : Ky) (h : l[j]? = some x) : addAll S (l.take (j + 1)) = addK (addAll S (l.take j)) x := by
  have e : l.take (j + 1) = l.take j ++ [x] := by
    have hlt : j < l.length := (List.getElem?_eq_some_iff.1 h).1
    rw [List.take_succ_eq_append_getElem hlt]
    rw [List.getElem?_eq_getElem hlt] at h
    rw [Option.some.inj h]
  rw [e, addAll_append]
  rfl
end Go.Proofs.YtpfhhaonfbfheaaGreatDoor.ky
/- Package key: a set of several lists, the standard set. Conditions: the listed variables hold what the program's text lays. -/
namespace Go.Proofs.YtpfhhaonfbfheaaGreatDoor.ky
open Go.ChangeShapes Go.WideShapes Go.ChangeAt Go.RowKit gl va ls

theorem addAll_take (S : List Ky) (lss : List (List Ky)) (i : Nat) (l : List Ky) (h : lss[i]? = some l) : addAll S (lss.take (i + 1)).flatten = addAll (addAll S (lss.take i).flatten) l := by
  have hlt : i < lss.length := (List.getElem?_eq_some_iff.1 h).1
  rw [List.take_succ_eq_append_getElem hlt]
  rw [List.getElem?_eq_getElem hlt] at h
  rw [Option.some.inj h, List.flatten_append, addAll_append]
  simp
set_option maxHeartbeats 4000000 in
set_option maxRecDepth 100000 in
theorem together_any (g n : Nat) (lss : List (List Ky)) (hn : lss.length = n) (hn4 : n ≤ 100) (hlens : ∀ l ∈ lss, l.length ≤ 4294967295) (hok : ∀ l ∈ lss, ∀ x ∈ l, KyOk x) (w : World) (hR : Rows4 w g lss) (hV : Vlo w) :
    Calls Tryz.prog 33 #[.slice (some ⟨g, 0, none⟩) n n] w fun e w' => (∃ b, e = .returned (.pointer (some ⟨b, 0, none⟩)) ∧ SetK w.heap.size w' b (addAll [] lss.flatten)) ∧ Below w.heap.size w w' := by
  have HV := Lib.hid hV
  have HR := Lib.hid hR
  have HNw := Lib.hid (New_any w)
  have hgw : g < w.heap.size := by obtain ⟨_, h1, _⟩ := hR; exact lt_of_block h1
  clear hV hR
  go_enter Tryz.func33, Tryz.ntmps33
  go_wp2_with fail
  refine HNw.out.mono ?_
  rintro e w1 ⟨rfl, hS1, hb1⟩
  have HS1 := Lib.hid hS1
  have Hb1 := Lib.hid hb1
  clear hS1 hb1 HNw
  obtain ⟨b, hb⟩ : ∃ b, b = w.heap.size := ⟨_, rfl⟩
  rw [← hb] at HS1
  rw [← hb]
  have hbw : w.heap.size ≤ b := by omega
  have Hbe := Lib.hid hb
  clear hb
  go_wp2_with fail
  go_loopw [11] (fun i wr => ∃ j : Nat, j ≤ n ∧ i = .int .i64 j ∧ Hid (SetK b wr b (addAll [] (lss.take j).flatten)) ∧ Hid (Below w.heap.size w wr)) (fun i _ => n - (intOf i).toNat)
  case atStart => exact ⟨0, by omega, rfl, HS1, Hb1⟩
  case round =>
    clear HS1 Hb1
    obtain ⟨wo, rfl⟩ : ∃ wo, wo = wr := ⟨_, rfl⟩
    obtain ⟨j, hj, rfl, HS, Hb⟩ := hrel
    by_cases hlt : j < n
    · obtain ⟨l, hl⟩ : ∃ l, lss[j]? = some l := ⟨_, List.getElem?_eq_getElem (by omega)⟩
      have hlm := List.mem_of_getElem? hl
      obtain ⟨cs, hcs, hrow⟩ := HR.out
      obtain ⟨v, hv, hkv⟩ := hrow j l hl
      obtain ⟨p, c, rfl⟩ := hkv.form
      have c0 : wo.cell? ⟨g, j, none⟩ = some (.slice p l.length c) := by rw [cell_in ((Hb.out.block g (lt_of_block hcs)).trans hcs)]; exact hv
      have hgo : g < wo.heap.size := by have := Hb.out.size; omega
      have HKl := Lib.hid hkv
      have HPl := Lib.hid hkv.ptr.2.2
      have hll := hlens l hlm
      have Hokl := Lib.hid (hok l hlm)
      have Hat := Lib.hid (addAll_take [] lss j l hl)
      obtain ⟨S, hS⟩ : ∃ S, addAll [] (lss.take j).flatten = S := ⟨_, rfl⟩
      rw [hS] at HS Hat
      have hwo : w.heap.size ≤ wo.heap.size := Hb.out.size
      clear hl hlm hcs hrow hv hkv hS
      go_wp2_with fail
      go_loopw [17] (fun i wq => ∃ k : Nat, k ≤ l.length ∧ i = .int .i64 k ∧ Hid (SetK b wq b (addAll S (l.take k))) ∧ Hid (Below w.heap.size w wq)) (fun i _ => l.length - (intOf i).toNat)
      case atStart => exact ⟨0, by omega, rfl, HS, Hb⟩
      case round =>
        obtain ⟨wq, rfl⟩ : ∃ wq, wq = wr := ⟨_, rfl⟩
        obtain ⟨k, hk, rfl, HSq, Hbq⟩ := hrel
        by_cases hlt2 : k < l.length
        · obtain ⟨x, hx⟩ : ∃ x, l[k]? = some x := ⟨_, List.getElem?_eq_getElem hlt2⟩
          obtain ⟨bp, op, rfl, hbp⟩ := HPl.out (by omega)
          obtain ⟨k0, k1, k2, k3, k4, k5⟩ := ky_cells (HKl.out.later Hbq.out) hx
          have hbq : bp < wq.heap.size := by have := Hbq.out.size; omega
          have hki : (k : Int) < (l.length : Int) := by omega
          have hk50 : (0 : Int) ≤ (k : Int) := by omega
          have hbqs : b < wq.heap.size := HSq.out.lt
          have Hst := Lib.hid (add_step S l k x hx)
          have HAdd : Hid (∀ W, Below wq.heap.size wq W → Calls Tryz.prog 48 #[.pointer (some ⟨b, 0, none⟩), .agg #[.string (B x.name), .int .i64 x.kind, .string (B x.dflt), .int .i64 x.least, .int .i64 x.most, .string (B x.letter)]] W fun e w' => (∃ er, e = .returned (.int .i64 er)) ∧ SetK b w' b (addAll S (l.take (k + 1))) ∧ Below w.heap.size w w') := Lib.hid fun W hW => by
            have hbW := then_bel Hbq.out hW
            refine (Add_any b b (addAll S (l.take k)) x W (HSq.out.later hW) (Hokl.out x (List.mem_of_getElem? hx)) (by have := hW.size; omega) (HV.out.below hbW (Nat.le_refl _))).mono fun e w' h => ?_
            obtain ⟨h1, h2, h3⟩ := h
            refine ⟨⟨_, h1⟩, by rw [Hst.out]; exact h2, hbW.trans ?_⟩
            rw [← Hbe.out]
            exact h3
          clear hx
          generalize B x.name = nm at *
          generalize B x.dflt = df at *
          generalize B x.letter = lt at *
          generalize x.kind = kk at *
          generalize x.least = le at *
          generalize x.most = mo at *
          go_wp2_with fail
          refine (HAdd.out _ (by repeat (first | exact Below.refl _ _ | refine Below.setCell ?_ (by simp only; omega) _ | refine Below.alloc ?_ (by simp) _))).mono ?_
          rintro e w9 ⟨⟨er, rfl⟩, hs9, hb9⟩
          have Hs9 := Lib.hid hs9
          have Hb9 := Lib.hid hb9
          clear hs9 hb9
          go_wp2_with fail
          go_roundw
          case rel => exact ⟨k + 1, by omega, by go_num, Hs9, Hb9⟩
          case measure => simp [intOf]; omega
        · obtain rfl : k = l.length := by omega
          have HSn : Hid (SetK b wq b (addAll [] (lss.take (j + 1)).flatten)) := Lib.hid (by
            rw [Hat.out]
            have h := HSq.out
            rwa [List.take_of_length_le (Nat.le_refl _)] at h)
          have hd1 : decide ((l.length : Int) < (l.length : Int)) = false := by simp
          go_wp2_with fail
          go_roundw
          case rel => exact ⟨j + 1, by omega, by go_num, HSn, Hbq⟩
          case measure => simp [intOf]; omega
    · obtain rfl : j = n := by omega
      have hd1 : decide ((j : Int) < (j : Int)) = false := by simp
      go_wp2_with fail
      go_ret
      refine ⟨⟨b, rfl, ?_⟩, Hb.out⟩
      have h := HS.out
      rw [List.take_of_length_le (by omega)] at h
      rw [← Hbe.out]
      exact h
theorem four {w : World} {g : Nat} {p0 p1 p2 p3 : Option Addr} (h : w.heap[g]? = some (.cells #[.slice p0 3 3, .slice p1 5 5, .slice p2 4 4, .slice p3 4 4] 27 (0, 0))) (h0 : Kys w (.slice p0 3 3) logK) (h1 : Kys w (.slice p1 5 5) netK) (h2 : Kys w (.slice p2 4 4) storeK) (h3 : Kys w (.slice p3 4 4) bootK) : Rows4 w g [logK, netK, storeK, bootK] := by
  refine ⟨_, h, fun i l hl => ?_⟩
  match i, hl with
  | 0, hl => cases hl; exact ⟨_, rfl, h0⟩
  | 1, hl => cases hl; exact ⟨_, rfl, h1⟩
  | 2, hl => cases hl; exact ⟨_, rfl, h2⟩
  | 3, hl => cases hl; exact ⟨_, rfl, h3⟩
set_option maxHeartbeats 1000000 in
set_option maxRecDepth 100000 in
/-- The standard set, at any time. -/
theorem Standard_any (w : World) (hV : Vlo w) :
    Calls Tryz.prog 8 #[] w fun e w' => (∃ b, e = .returned (.pointer (some ⟨b, 0, none⟩)) ∧ SetK w.heap.size w' b stdK) ∧ Below w.heap.size w w' := by
  have HV := Lib.hid hV
  clear hV
  go_enter Tryz.func8, Tryz.ntmps8
  go_wp2_with fail
  refine (log_any w).mono ?_
  rintro e w1 ⟨⟨p1, rfl, h1⟩, hb1⟩
  have H1 := Lib.hid h1
  have Hb1 := Lib.hid hb1
  clear h1 hb1
  go_wp2_with fail
  refine (net_any w1).mono ?_
  rintro e w2 ⟨⟨p2, rfl, h2⟩, hb2⟩
  have H12 := Lib.hid (H1.out.later hb2)
  have H2 := Lib.hid h2
  have Hb2 := Lib.hid (then_bel Hb1.out hb2)
  clear h2 hb2
  go_wp2_with fail
  refine (store_any w2).mono ?_
  rintro e w3 ⟨⟨p3, rfl, h3⟩, hb3⟩
  have H13 := Lib.hid (H12.out.later hb3)
  have H23 := Lib.hid (H2.out.later hb3)
  have H3 := Lib.hid h3
  have Hb3 := Lib.hid (then_bel Hb2.out hb3)
  clear h3 hb3
  go_wp2_with fail
  refine (boot_any w3).mono ?_
  rintro e w4 ⟨⟨p4, rfl, h4⟩, hb4⟩
  have H14 := Lib.hid (H13.out.later hb4)
  have H24 := Lib.hid (H23.out.later hb4)
  have H34 := Lib.hid (H3.out.later hb4)
  have H4 := Lib.hid h4
  have Hb4 := Lib.hid (then_bel Hb3.out hb4)
  clear h4 hb4
  obtain ⟨w5, hw5⟩ : ∃ w5, w5 = w4.alloc (.cells #[.slice p1 3 3, .slice p2 5 5, .slice p3 4 4, .slice p4 4 4] 27) := ⟨_, rfl⟩
  have hb45 : Below w4.heap.size w4 w5 := by rw [hw5]; exact (Below.refl _ _).alloc (Nat.le_refl _) _
  have hrow : Rows4 w5 w4.heap.size [logK, netK, storeK, bootK] := four (by rw [hw5]; exact heap_alloc_new w4 _) (H14.out.later hb45) (H24.out.later hb45) (H34.out.later hb45) (H4.out.later hb45)
  have Hb5 := Lib.hid (then_bel Hb4.out hb45)
  have HT := Lib.hid (together_any w4.heap.size 4 [logK, netK, storeK, bootK] rfl (by decide) (by decide) (fun l hl x hx => std_ok x (by
    simp only [List.mem_cons, List.not_mem_nil, or_false] at hl
    unfold stdK
    rcases hl with rfl | rfl | rfl | rfl <;> simp [hx])) w5 hrow (HV.out.below Hb5.out (Nat.le_refl _)))
  have Hw5 := Lib.hid hw5
  clear hb45 hrow hw5
  go_wp2_with fail
  rw [← Hw5.out]
  refine HT.out.mono ?_
  rintro e w6 ⟨⟨b, rfl, hs⟩, hb6⟩
  have Hs := Lib.hid hs
  have Hb6 := Lib.hid (then_bel Hb5.out hb6)
  have Hz := Lib.hid Hb5.out.size
  clear hs hb6
  go_wp2_with fail
  go_ret
  refine ⟨⟨b, rfl, ?_⟩, Hb6.out⟩
  have h := Hs.out
  rw [show [logK, netK, storeK, bootK].flatten = logK ++ (netK ++ (storeK ++ bootK)) by simp, std_all] at h
  exact ⟨by have := h.lo; have := Hz.out; omega, h.len, h.asc, h.ok, by
    obtain ⟨v, hv, hB⟩ := h.blk
    exact ⟨v, hv, hB.mono Hz.out⟩⟩
end Go.Proofs.YtpfhhaonfbfheaaGreatDoor.ky
/- tinderboxlaw08.awake, addsUp. Conditions: the listed variables hold what the program's text lays. -/
namespace Go.Proofs.YtpfhhaonfbfheaaGreatDoor.en
open Go.ChangeShapes Go.WideShapes Go.ChangeAt Go.RowKit gl va ls ky

def stdN : List (List UInt8) := stdK.map (·.name)
theorem std_names : ∀ x ∈ stdK, nameL x.name = true := by decide +kernel
def pairs0 : List (List UInt8) := [[72, 79, 77, 69, 61, 47, 114, 111, 111, 116], [78, 69, 84, 95, 80, 79, 82, 84, 61, 57, 48, 48, 49], [80, 79, 82, 84, 61, 49], [78, 69, 84, 95, 80, 79, 82, 84, 61]]
theorem parse0 : parseL stdN 0 pairs0 [] = ([⟨[110, 101, 116, 46, 112, 111, 114, 116], [57, 48, 48, 49], 1⟩, ⟨[110, 101, 116, 46, 112, 111, 114, 116], [], 3⟩], 0, 0) := by kernel_rfl
def pairs1 : List (List UInt8) := [[65, 61, 49], [78, 69, 84, 95, 80, 79, 82, 84, 83, 61, 49]]
theorem parse1 : parseL stdN 0 pairs1 [] = ([], 81, 1) := by kernel_rfl
def pairs2 : List (List UInt8) := [[65, 61, 49], [66]]
theorem parse2 : parseL stdN 0 pairs2 [] = ([], 80, 1) := by kernel_rfl
theorem nm1 : nmL [110, 101, 116, 46, 112, 111, 114, 116] = [78, 69, 84, 95, 80, 79, 82, 84] ∧ nmE [110, 101, 116, 46, 112, 111, 114, 116] = 0 := by decide +kernel
theorem nm2 : nmL [78, 101, 116] = [] ∧ nmE [78, 101, 116] = 1 := by decide +kernel
set_option maxRecDepth 100000 in
theorem Parse_nil (w : World) : Calls Tryz.prog 27 #[.pointer none, .slice none 0 0] w fun e w' => e = .returned (.tuple #[.slice none 0 0, .int .i64 1, .int .i64 0]) ∧ w' = w := by
  go_enter Tryz.func27, Tryz.ntmps27
  go_wp2_with fail
  go_ret3
  exact ⟨rfl, rfl⟩
set_option maxRecDepth 100000 in
theorem sumUp_any (n m : Int) (hn : 0 ≤ n) (hm : 0 ≤ m) (w : World) : Calls Tryz.prog 19 #[.int .i64 n, .int .i64 m] w fun e w' => e = .returned (.int .i64 (if 2147483647 < n ∨ 2147483647 < m then 2147483648 else n + m)) ∧ w' = w := by
  by_cases h1 : 2147483647 < n
  · rw [if_pos (.inl h1)]
    go_enter Tryz.func19, Tryz.ntmps19
    go_wp2_with fail
    go_ret
    exact ⟨rfl, rfl⟩
  · by_cases h2 : 2147483647 < m
    · rw [if_pos (.inr h2)]
      go_enter Tryz.func19, Tryz.ntmps19
      go_wp2_with fail
      go_ret
      exact ⟨rfl, rfl⟩
    · rw [if_neg (by omega)]
      have h3 : n ≤ 2147483647 := by omega
      have h4 : m ≤ 2147483647 := by omega
      go_enter Tryz.func19, Tryz.ntmps19
      go_wp2_with fail
      go_ret
      exact ⟨rfl, rfl⟩
set_option maxHeartbeats 4000000 in
set_option maxRecDepth 100000 in
theorem awoke_any (w : World) (hV : Vlo w) : Calls Tryz.prog 20 #[] w fun e w' => e = .returned (.bool true) ∧ Below w.heap.size w w' := by
  have HG := Lib.hid fun W (h : Below w.heap.size w W) => (hV.below h (Nat.le_refl _)).glo
  have HSd := Lib.hid fun W (h : Below w.heap.size w W) => Standard_any W (hV.below h (Nat.le_refl _))
  have HN1 : Hid (∀ W, Below w.heap.size w W → Calls Tryz.prog 21 #[.string ⟨#[110, 101, 116, 46, 112, 111, 114, 116]⟩] W fun e w' => e = .returned (.tuple #[.string ⟨#[78, 69, 84, 95, 80, 79, 82, 84]⟩, .int .i64 0]) ∧ Below W.heap.size W w') := Lib.hid fun W hW => by
    have h := Name_any [110, 101, 116, 46, 112, 111, 114, 116] (by decide) W (HG.out W hW)
    rw [nm1.1, nm1.2] at h
    exact h
  have HN2 : Hid (∀ W, Below w.heap.size w W → Calls Tryz.prog 21 #[.string ⟨#[78, 101, 116]⟩] W fun e w' => e = .returned (.tuple #[.string ⟨#[]⟩, .int .i64 1]) ∧ Below W.heap.size W w') := Lib.hid fun W hW => by
    have h := Name_any [78, 101, 116] (by decide) W (HG.out W hW)
    rw [nm2.1, nm2.2] at h
    exact h
  have HPa : Hid (∀ (W : World) (M b g : Nat) (cs : Array Value) (l : List (List UInt8)) (n : Nat) (o : List Gv) (er : Int) (k : Nat), Below w.heap.size w W → SetK M W b stdK → W.heap[g]? = some (.cells cs 9 (0, 0)) → cs.toList = rw.flat stC l → l.length = n → n ≤ 100 → (∀ x ∈ l, x.length ≤ 2147483647) → parseL stdN 0 l [] = (o, er, k) → Calls Tryz.prog 27 #[.pointer (some ⟨b, 0, none⟩), .slice (some ⟨g, 0, none⟩) n n] W fun e w' => (∃ v, e = .returned (.tuple #[v, .int .i64 er, .int .i64 (k : Nat)]) ∧ NewGvs W.heap.size w' v o) ∧ Below W.heap.size W w') := Lib.hid fun W M b g cs l n o er k hW hS hg hc hn hn1 hl hp => by
    have hP := rw.rw_lit stC_len hg hc
    rw [hn] at hP
    have h := Parse_any M b stdK _ n n l hn (by omega) hl std_names W hS hP (HG.out W hW)
    rw [show stdK.map (·.name) = stdN from rfl, hp] at h
    exact h
  have heq := eql_gv
  have HPn := Lib.hid Parse_nil
  clear hV HG
  go_enter Tryz.func20, Tryz.ntmps20
  go_wp2_with fail
  refine (HN1.out _ (Below.refl _ _)).mono ?_
  rintro e w1 ⟨rfl, hb1⟩
  have Hb1 := Lib.hid hb1
  clear hb1
  go_wp2_with fail
  refine (HN2.out _ Hb1.out).mono ?_
  rintro e w2 ⟨rfl, hb2⟩
  have Hb2 := Lib.hid (then_bel Hb1.out Hb1.out.size hb2)
  clear hb2
  go_wp2_with fail
  refine (HSd.out _ Hb2.out).mono ?_
  rintro e w3 ⟨⟨b, rfl, hS3⟩, hb3⟩
  have Hb3 := Lib.hid (then_bel Hb2.out Hb2.out.size hb3)
  have HS3 := Lib.hid hS3
  clear hS3 hb3
  obtain ⟨x0, hx0⟩ : ∃ x0, x0 = w3.alloc (.cells #[.string ⟨#[72, 79, 77, 69, 61, 47, 114, 111, 111, 116]⟩, .string ⟨#[78, 69, 84, 95, 80, 79, 82, 84, 61, 57, 48, 48, 49]⟩, .string ⟨#[80, 79, 82, 84, 61, 49]⟩, .string ⟨#[78, 69, 84, 95, 80, 79, 82, 84, 61]⟩] 9) := ⟨_, rfl⟩
  have Hk0 : Hid (x0.heap[w3.heap.size]? = some (.cells #[.string ⟨#[72, 79, 77, 69, 61, 47, 114, 111, 111, 116]⟩, .string ⟨#[78, 69, 84, 95, 80, 79, 82, 84, 61, 57, 48, 48, 49]⟩, .string ⟨#[80, 79, 82, 84, 61, 49]⟩, .string ⟨#[78, 69, 84, 95, 80, 79, 82, 84, 61]⟩] 9 (0, 0))) := Lib.hid (by rw [hx0]; exact heap_alloc_new w3 _)
  have hbx0 : Below w3.heap.size w3 x0 := by rw [hx0]; exact (Below.refl _ _).alloc (Nat.le_refl _) _
  have Hbx0 := Lib.hid (then_bel Hb3.out Hb3.out.size hbx0)
  have HSx0 := Lib.hid (HS3.out.later hbx0)
  have Hox0 := Lib.hid hbx0
  clear hbx0
  go_wp2_with fail
  rw [← hx0]
  refine (HPa.out x0 _ b _ _ pairs0 4 _ _ _ Hbx0.out HSx0.out Hk0.out rfl rfl (by decide) (by decide) parse0).mono ?_
  rintro e w4 ⟨⟨v0, rfl, hv0⟩, hb4⟩
  have Hb4 := Lib.hid (then_bel Hbx0.out Hbx0.out.size hb4)
  have HS4 := Lib.hid (HSx0.out.later hb4)
  have Hv0 := Lib.hid hv0
  clear hv0 hb4 hx0
  obtain ⟨x1, hx1⟩ : ∃ x1, x1 = w4.alloc (.cells #[.string ⟨#[65, 61, 49]⟩, .string ⟨#[78, 69, 84, 95, 80, 79, 82, 84, 83, 61, 49]⟩] 9) := ⟨_, rfl⟩
  have Hk1 : Hid (x1.heap[w4.heap.size]? = some (.cells #[.string ⟨#[65, 61, 49]⟩, .string ⟨#[78, 69, 84, 95, 80, 79, 82, 84, 83, 61, 49]⟩] 9 (0, 0))) := Lib.hid (by rw [hx1]; exact heap_alloc_new w4 _)
  have hbx1 : Below w4.heap.size w4 x1 := by rw [hx1]; exact (Below.refl _ _).alloc (Nat.le_refl _) _
  have Hbx1 := Lib.hid (then_bel Hb4.out Hb4.out.size hbx1)
  have HSx1 := Lib.hid (HS4.out.later hbx1)
  have Hox1 := Lib.hid hbx1
  clear hbx1
  go_wp2_with fail
  rw [← hx1]
  refine (HPa.out x1 _ b _ _ pairs1 2 _ _ _ Hbx1.out HSx1.out Hk1.out rfl rfl (by decide) (by decide) parse1).mono ?_
  rintro e w5 ⟨⟨v1, rfl, hv1⟩, hb5⟩
  have Hb5 := Lib.hid (then_bel Hbx1.out Hbx1.out.size hb5)
  have HS5 := Lib.hid (HSx1.out.later hb5)
  have Hv0x := Lib.hid ((Hv0.out.later Hox1.out).later hb5)
  clear hv1 hb5 hx1
  obtain ⟨x2, hx2⟩ : ∃ x2, x2 = w5.alloc (.cells #[.string ⟨#[65, 61, 49]⟩, .string ⟨#[66]⟩] 9) := ⟨_, rfl⟩
  have Hk2 : Hid (x2.heap[w5.heap.size]? = some (.cells #[.string ⟨#[65, 61, 49]⟩, .string ⟨#[66]⟩] 9 (0, 0))) := Lib.hid (by rw [hx2]; exact heap_alloc_new w5 _)
  have hbx2 : Below w5.heap.size w5 x2 := by rw [hx2]; exact (Below.refl _ _).alloc (Nat.le_refl _) _
  have Hbx2 := Lib.hid (then_bel Hb5.out Hb5.out.size hbx2)
  have HSx2 := Lib.hid (HS5.out.later hbx2)
  have Hox2 := Lib.hid hbx2
  clear hbx2
  go_wp2_with fail
  rw [← hx2]
  refine (HPa.out x2 _ b _ _ pairs2 2 _ _ _ Hbx2.out HSx2.out Hk2.out rfl rfl (by decide) (by decide) parse2).mono ?_
  rintro e w6 ⟨⟨v2, rfl, hv2⟩, hb6⟩
  have Hb6 := Lib.hid (then_bel Hbx2.out Hbx2.out.size hb6)
  have HS6 := Lib.hid (HSx2.out.later hb6)
  have Hv0xx := Lib.hid ((Hv0x.out.later Hox2.out).later hb6)
  clear hv2 hb6 hx2
  obtain ⟨g, c, cs, hv, hc2, _, hblk, hcs, hat⟩ : ∃ g c cs, v0 = .slice (some ⟨g, 0, none⟩) 2 c ∧ 2 ≤ c ∧ 0 ≤ g ∧ w6.heap[g]? = some (.cells cs 35 (0, 0)) ∧ c * 3 ≤ cs.size ∧ At cs 0 (rw.flat gvC [⟨[110, 101, 116, 46, 112, 111, 114, 116], [57, 48, 48, 49], 1⟩, ⟨[110, 101, 116, 46, 112, 111, 114, 116], [], 3⟩]) := by
    rcases Hv0xx.out with ⟨h, _⟩ | ⟨g, c, cs, h1, h2, h3, h4, h5, h6⟩
    · cases h
    · exact ⟨g, c, cs, h1, h2, Nat.zero_le _, h4, h5, h6⟩
  subst hv
  have d0 : w6.cell? ⟨g, 0, none⟩ = some (.string ⟨#[110, 101, 116, 46, 112, 111, 114, 116]⟩) := by rw [cell_in hblk]; exact hat 0 _ rfl
  have d1 : w6.cell? ⟨g, 1, none⟩ = some (.string ⟨#[57, 48, 48, 49]⟩) := by rw [cell_in hblk]; exact hat 1 _ rfl
  have d2 : w6.cell? ⟨g, 2, none⟩ = some (.int .i64 1) := by rw [cell_in hblk]; exact hat 2 _ rfl
  have d3 : w6.cell? ⟨g, 3, none⟩ = some (.string ⟨#[110, 101, 116, 46, 112, 111, 114, 116]⟩) := by rw [cell_in hblk]; exact hat 3 _ rfl
  have d4 : w6.cell? ⟨g, 4, none⟩ = some (.string ⟨#[]⟩) := by rw [cell_in hblk]; exact hat 4 _ rfl
  have d5 : w6.cell? ⟨g, 5, none⟩ = some (.int .i64 3) := by rw [cell_in hblk]; exact hat 5 _ rfl
  have hgl : g < w6.heap.size := lt_of_block hblk
  clear hblk hcs hat
  go_wp2_with fail
  refine (HPn.out _).mono ?_
  rintro e w7 ⟨rfl, rfl⟩
  go_wp2_with fail
  go_ret
  exact ⟨rfl, Hb6.out⟩
end Go.Proofs.YtpfhhaonfbfheaaGreatDoor.en
/- EnvNames returns true: any texts. Conditions: the listed variables hold what the program's text lays. -/
namespace Go.Proofs.YtpfhhaonfbfheaaGreatDoor.en
open Go.ChangeShapes Go.WideShapes Go.ChangeAt Go.RowKit gl va ls ky

set_option maxHeartbeats 4000000 in
set_option maxRecDepth 100000 in
theorem names_walk (s t A C : ByteArray) (e1 e2 : Int) (w : World) (hsum : s.size + t.size ≤ 2147483647) (HAw : Hid (∀ W, Below w.heap.size w W → Calls Tryz.prog 20 #[] W fun e w' => e = .returned (.bool true) ∧ Below W.heap.size W w'))
    (H1 : Hid (∀ W, Below w.heap.size w W → Calls Tryz.prog 21 #[.string s] W fun e w' => e = .returned (.tuple #[.string A, .int .i64 e1]) ∧ Below W.heap.size W w'))
    (H2 : Hid (∀ W, Below w.heap.size w W → Calls Tryz.prog 22 #[.string s] W fun e w' => e = .returned (.tuple #[.string A, .int .i64 e1]) ∧ Below W.heap.size W w'))
    (H3 : Hid (∀ W, Below w.heap.size w W → Calls Tryz.prog 21 #[.string t] W fun e w' => e = .returned (.tuple #[.string C, .int .i64 e2]) ∧ Below W.heap.size W w'))
    (hcase : (e1 = 1 ∧ (e2 = 0 ∨ e2 = 1)) ∨ (e1 = 0 ∧ e2 = 1) ∨ (e1 = 0 ∧ e2 = 0 ∧ ((A.toList == C.toList) = false ∨ ((A.toList == C.toList) = true ∧ (s.toList == t.toList) = true)))) :
    Calls Tryz.prog 5 #[.string s, .string t] w fun e w' => e = .returned (.bool true) ∧ Below w.heap.size w w' := by
  have HU : Hid (∀ W, Calls Tryz.prog 19 #[.int .i64 (s.size : Nat), .int .i64 (t.size : Nat)] W fun e w' => e = .returned (.int .i64 ((s.size : Int) + (t.size : Int))) ∧ w' = W) := Lib.hid fun W => by
    have h := sumUp_any (s.size : Int) (t.size : Int) (by omega) (by omega) W
    rw [if_neg (by omega)] at h
    exact h
  have hs1 : ((s.size : Int) + (t.size : Int)) ≤ 2147483647 := by omega
  have hb : A.toList == A.toList := by simp
  clear hsum
  rcases hcase with ⟨rfl, rfl | rfl⟩ | ⟨rfl, rfl⟩ | ⟨rfl, rfl, h | ⟨h, h2⟩⟩
  all_goals
    go_enter Tryz.func5, Tryz.ntmps5
    go_wp2_with fail
    refine (HU.out _).mono ?_
    rintro e w0 ⟨rfl, rfl⟩
    go_wp2_with fail
    refine (HAw.out _ (Below.refl _ _)).mono ?_
    rintro e w1 ⟨rfl, hb1⟩
    have Hb1 := Lib.hid hb1
    clear hb1
    go_wp2_with fail
    refine (H1.out _ Hb1.out).mono ?_
    rintro e w2 ⟨rfl, hb2⟩
    have Hb2 := Lib.hid (then_bel Hb1.out Hb1.out.size hb2)
    clear hb2
    go_wp2_with fail
    refine (H2.out _ Hb2.out).mono ?_
    rintro e w3 ⟨rfl, hb3⟩
    have Hb3 := Lib.hid (then_bel Hb2.out Hb2.out.size hb3)
    clear hb3
    go_wp2_with fail
    refine (H3.out _ Hb3.out).mono ?_
    rintro e w4 ⟨rfl, hb4⟩
    have Hb4 := Lib.hid (then_bel Hb3.out Hb3.out.size hb4)
    clear hb4
    go_wp2_with fail
    go_ret
    exact ⟨rfl, Hb4.out⟩
set_option maxRecDepth 100000 in
theorem names_big (s t : ByteArray) (w : World) (hbig : 2147483647 < s.size + t.size) :
    Calls Tryz.prog 5 #[.string s, .string t] w fun e w' => e = .returned (.bool true) ∧ Below w.heap.size w w' := by
  obtain ⟨z, hz, HU⟩ : ∃ z : Int, 2147483647 < z ∧ Hid (∀ W, Calls Tryz.prog 19 #[.int .i64 (s.size : Nat), .int .i64 (t.size : Nat)] W fun e w' => e = .returned (.int .i64 z) ∧ w' = W) :=
    ⟨if 2147483647 < (s.size : Int) ∨ 2147483647 < (t.size : Int) then 2147483648 else (s.size : Int) + (t.size : Int), by split <;> omega, Lib.hid fun W => sumUp_any (s.size : Int) (t.size : Int) (by omega) (by omega) W⟩
  clear hbig
  go_enter Tryz.func5, Tryz.ntmps5
  go_wp2_with fail
  refine (HU.out _).mono ?_
  rintro e w0 ⟨rfl, rfl⟩
  go_wp2_with fail
  go_ret
  exact ⟨rfl, Below.refl _ _⟩
theorem nm_ways (l : List UInt8) : (nameL l = true ∧ nmE l = 0 ∧ nmL l = greatL l) ∨ (nameL l = false ∧ nmE l = 1) := by
  cases h : nameL l with
  | true => exact .inl ⟨rfl, nmE_yes h, nmL_yes h⟩
  | false => exact .inr ⟨rfl, nmE_no h⟩
theorem envNames_any (s t : ByteArray) (w : World) (hV : Vlo w) :
    Calls Tryz.prog 5 #[.string s, .string t] w fun e w' => e = .returned (.bool true) ∧ Below w.heap.size w w' := by
  by_cases hbig : 2147483647 < s.size + t.size
  · exact names_big s t w hbig
  · have hls : s.data.toList.length ≤ 2147483647 := by
      have : s.data.toList.length = s.size := Array.length_toList
      omega
    have hlt : t.data.toList.length ≤ 2147483647 := by
      have : t.data.toList.length = t.size := Array.length_toList
      omega
    have h1 := fun W hW => Name_any s.data.toList hls W ((hV.below hW (Nat.le_refl _)).glo)
    have h2 := fun (W : World) (_ : Below w.heap.size w W) => refName_any s.data.toList hls W
    have h3 := fun W hW => Name_any t.data.toList hlt W ((hV.below hW (Nat.le_refl _)).glo)
    rw [B_of] at h1 h2 h3
    refine names_walk s t _ _ _ _ w (by omega) (Lib.hid fun W hW => awoke_any W (hV.below hW (Nat.le_refl _))) (Lib.hid h1) (Lib.hid h2) (Lib.hid h3) ?_
    rw [ByteArray.toList_eq, ByteArray.toList_eq, ByteArray.toList_eq, ByteArray.toList_eq, B_list, B_list]
    rcases nm_ways s.data.toList with ⟨a1, a2, a3⟩ | ⟨a1, a2⟩
    · rcases nm_ways t.data.toList with ⟨b1, b2, b3⟩ | ⟨b1, b2⟩
      · refine .inr (.inr ⟨a2, b2, ?_⟩)
        by_cases he : nmL s.data.toList = nmL t.data.toList
        · refine .inr ⟨by rw [he]; simp, ?_⟩
          rw [a3, b3] at he
          rw [great_inj a1 b1 he]
          simp
        · exact .inl (by simpa using he)
      · exact .inr (.inl ⟨a2, b2⟩)
    · rcases nm_ways t.data.toList with ⟨b1, b2, b3⟩ | ⟨b1, b2⟩
      · exact .inl ⟨a2, .inl b2⟩
      · exact .inl ⟨a2, .inr b2⟩
end Go.Proofs.YtpfhhaonfbfheaaGreatDoor.en
