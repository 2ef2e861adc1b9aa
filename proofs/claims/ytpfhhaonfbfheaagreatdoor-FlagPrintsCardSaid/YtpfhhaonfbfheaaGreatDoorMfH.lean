/- Laws and contracts on which the statement rests, part H: each text says what it proves, and its conditions. -/
import Derived.Test.YtpfhhaonfbfheaaGreatDoorMfG
import Derived.Test.YtpfhhaonfbfheaaGreatDoorMfE
import Derived.Deep.RegionLaw
import Derived.Test.YtpfhhaonfbfheaaGreatDoorMfC
import Derived.Deep.DeepCutAuto
import Derived.Deep.LoopGhost
import Derived.Deep.AppendLies
import Derived.BigQuiet
/- law 08's made: a set of definitions, or the standard one with some more; the names of its settings. Conditions: definitions whose texts and numbers may be; the listed variables hold what the program's text lays. -/
namespace Go.Proofs.YtpfhhaonfbfheaaGreatDoor.en
open Go.ChangeShapes Go.WideShapes Go.ChangeAt Go.RowKit gl va ls ky

theorem SetK.mono {M M' : Nat} {w : World} {b : Nat} {S : List Ky} (h : SetK M w b S) (hM : M' ≤ M) : SetK M' w b S := by
  obtain ⟨h1, h2, h3, h4, v, hv, hB⟩ := h
  exact ⟨by omega, h2, h3, h4, v, hv, hB.mono hM⟩
/-- All names are names. -/
def Named (S : List Ky) : Prop := ∀ x ∈ S, nameL x.name = true
theorem ins_mem {S : List Ky} {x y : Ky} (h : y ∈ insK S x) : y = x ∨ y ∈ S := by
  unfold insK at h
  rcases List.mem_append.1 h with h | h
  · exact .inr (List.takeWhile_subset _ h)
  · rcases List.mem_cons.1 h with h | h
    · exact .inl h
    · exact .inr (List.dropWhile_subset _ h)
theorem named_add {S : List Ky} (h : Named S) (x : Ky) : Named (addK S x) := by
  unfold addK
  split
  · rename_i h0
    have hf : formL x = true := by
      cases hf : formL x with
      | true => rfl
      | false => rw [addE_form hf] at h0; cases h0
    unfold formL at hf
    simp only [Bool.and_eq_true] at hf
    intro y hy
    rcases ins_mem hy with rfl | hy
    · exact hf.1.1
    · exact h y hy
  · exact h
theorem named_all : ∀ (l : List Ky) {S : List Ky}, Named S → Named (addAll S l)
  | [], _, h => h
  | x :: r, _, h => named_all r (named_add h x)
theorem named_std : Named stdK := by unfold Named; decide +kernel
theorem addAll_next {S l : List Ky} {k : Nat} {x : Ky} (h : l[k]? = some x) : addAll S (l.take (k + 1)) = addK (addAll S (l.take k)) x := by
  rw [List.take_add_one, h, addAll_append]
  rfl
/-- The set that a law makes. -/
noncomputable def madeS (std : Bool) (l : List Ky) : List Ky := addAll (if std = true then stdK else []) l
theorem named_made (std : Bool) (l : List Ky) : Named (madeS std l) := by
  unfold madeS
  refine named_all l ?_
  split
  · exact named_std
  · intro x hx; cases hx
theorem name_row {S : List Ky} {k : Nat} {x : Ky} (h : S[k]? = some x) : ((S.map (·.name)).take (k + 1)) = ((S.map (·.name)).take k) ++ [x.name] := take_map_snoc h
set_option maxHeartbeats 4000000 in
set_option maxRecDepth 100000 in
theorem made_any (pk : Option Addr) (nk ck : Nat) (l : List Ky) (std : Bool) (hnk : l.length = nk) (hnk31 : nk ≤ 2147483647) (hok : ∀ x ∈ l, KyOk x) (w : World) (hK : Kys w (.slice pk nk ck) l) (hV : Vlo w) :
    Calls Tryz.prog 25 #[.slice pk nk ck, .bool std] w fun e w' => (∃ b v, e = .returned (.tuple #[.pointer (some ⟨b, 0, none⟩), v]) ∧ SetK w.heap.size w' b (madeS std l) ∧ NewSts w.heap.size w' v ((madeS std l).map (·.name))) ∧ Below w.heap.size w w' := by
  obtain ⟨i0, hi, hz0, hz1, hz2⟩ := info_parts infoStr
  have HV := Lib.hid fun W (h : Below w.heap.size w W) => hV.below h (Nat.le_refl _)
  have HK := Lib.hid hK
  have Hptr := Lib.hid hK.ptr.2.2
  have Hok := Lib.hid hok
  have Hnk := Lib.hid hnk
  have HNw := Lib.hid (New_any w)
  obtain ⟨S, hS⟩ : ∃ S, S = madeS std l := ⟨_, rfl⟩
  rw [← hS]
  have HSe := Lib.hid hS
  clear hK hok hnk hV hS
  cases std with
  | true =>
    go_enter Tryz.func25, Tryz.ntmps25
    go_wp2_with fail
    refine HNw.out.mono ?_
    rintro e w1 ⟨rfl, hS1, hb1⟩
    have Hb1 := Lib.hid hb1
    clear hS1 hb1 HNw
    go_wp2_with fail
    refine (Standard_any w1 (HV.out _ Hb1.out)).mono ?_
    rintro e w2 ⟨⟨b, rfl, hS2⟩, hb2⟩
    have HS2 : Hid (SetK w.heap.size w2 b (addAll stdK (l.take 0))) := Lib.hid (SetK.mono hS2 Hb1.out.size)
    have Hb2 : Hid (Below w.heap.size w w2) := Lib.hid (then_bel Hb1.out Hb1.out.size hb2)
    have hM : Hid (S = addAll stdK l) := Lib.hid HSe.out
    clear HSe
    generalize stdK = S0 at *
    clear hS2 hb2
    go_wp2_with fail
    go_loopw [7] (fun vi wr => ∃ k : Nat, k ≤ nk ∧ vi = .int .i64 k ∧ Hid (SetK w.heap.size wr b (addAll S0 (l.take k))) ∧ Hid (Below w.heap.size w wr)) (fun vi _ => nk - (intOf vi).toNat)
    case atStart => exact ⟨0, by omega, rfl, HS2, Hb2⟩
    case round =>
      clear HS2 Hb2
      obtain ⟨wo, rfl⟩ : ∃ wo, wo = wr := ⟨_, rfl⟩
      obtain ⟨k, hk, rfl, HS, Hb⟩ := hrel
      have hzo : w.heap.size ≤ wo.heap.size := Hb.out.size
      by_cases hlt : k < nk
      · obtain ⟨x, hx⟩ : ∃ x, l[k]? = some x := ⟨_, List.getElem?_eq_getElem (by rw [Hnk.out]; exact hlt)⟩
        obtain ⟨gk, ok, rfl, hgk⟩ := Hptr.out (by omega)
        obtain ⟨c0, c1, c2, c3, c4, c5⟩ := ky_cells (HK.out.later Hb.out) hx
        have hgo : gk < wo.heap.size := by omega
        have HA := Lib.hid (Add_any w.heap.size b _ x wo HS.out (Hok.out x (List.mem_of_getElem? hx)) hzo (HV.out _ Hb.out))
        rw [← addAll_next hx] at HA
        have hki : (k : Int) < (nk : Int) := by omega
        have hk0 : (0 : Int) ≤ (k : Int) := by omega
        generalize addE (addAll S0 (l.take k)) x = er at *
        clear hx
        generalize B x.name = nx at *
        generalize B x.dflt = dx at *
        generalize B x.letter = lx at *
        generalize x.kind = kx at *
        generalize x.least = ex at *
        generalize x.most = ox at *
        go_wp2_with fail
        refine HA.out.mono ?_
        rintro e w3 ⟨rfl, hS3, hb3⟩
        have HS3 := Lib.hid hS3
        have Hb3 : Hid (Below w.heap.size w w3) := Lib.hid (Hb.out.trans hb3)
        clear hS3 hb3 c0 c1 c2 c3 c4 c5
        go_wp2_with fail
        go_roundw
        case rel => exact ⟨k + 1, by omega, by go_num, HS3, Hb3⟩
        case measure => simp [intOf]; omega
      · obtain rfl : k = nk := by omega
        have htk : l.take k = l := List.take_of_length_le (by rw [Hnk.out]; exact Nat.le_refl _)
        have hSk := HS.out
        rw [htk, ← hM.out] at hSk
        have HSl := Lib.hid hSk
        clear htk hSk HS hM
        have HAl := Lib.hid (All_any w.heap.size b S wo HSl.out)
        have hlen := HSl.out.len
        obtain ⟨n, hn⟩ : ∃ n, n = S.length := ⟨_, rfl⟩
        rw [← hn] at HAl hlen
        have Hn := Lib.hid hn
        clear hn
        go_wp2_with fail
        refine HAl.out.mono ?_
        rintro e w4 ⟨⟨pa, rfl, hn4⟩, hb4⟩
        have HK4 : Hid (Kys w4 (.slice pa n n) S) := Lib.hid (hn4.rw kyC_len)
        have Hp4 := Lib.hid HK4.out.ptr.2.2
        have HS4 := Lib.hid (HSl.out.later hb4)
        have Hb4 := Lib.hid (then_bel Hb.out hzo hb4)
        have HO4 : Hid (w4.ownsRow w4.heap.size 9 1 (.slice none 0 0) 0 (rw.flat stC ((S.map (·.name)).take 0))) := Lib.hid ⟨rfl, .inl ⟨rfl, rfl⟩⟩
        have hz4 : w.heap.size ≤ w4.heap.size := Hb4.out.size
        clear hn4 hb4 HAl HSl
        go_wp2_with fail
        go_loopw [9, 10] (fun vo vi wr => ∃ (j co : Nat) (po : Option Addr), j ≤ n ∧ vi = .int .i64 j ∧ vo = .slice po j co ∧ Hid (wr.ownsRow w4.heap.size 9 1 (.slice po j co) j (rw.flat stC ((S.map (·.name)).take j))) ∧ Hid (Below w4.heap.size w4 wr)) (fun _ vi _ => n - (intOf vi).toNat)
        case atStart => exact ⟨0, 0, none, by omega, rfl, rfl, HO4, Lib.hid (Below.refl _ _)⟩
        case round =>
          clear HO4
          obtain ⟨wq, rfl⟩ : ∃ wq, wq = wr := ⟨_, rfl⟩
          obtain ⟨j, co, po, hj, rfl, rfl, HO, Hbq⟩ := hrel
          have hzq : w4.heap.size ≤ wq.heap.size := Hbq.out.size
          by_cases hltj : j < n
          · obtain ⟨x, hx⟩ : ∃ x, S[j]? = some x := ⟨_, List.getElem?_eq_getElem (by rw [← Hn.out]; exact hltj)⟩
            obtain ⟨ga, oa, rfl, hga⟩ := Hp4.out (by omega)
            obtain ⟨c0, _⟩ := ky_cells (HK4.out.later Hbq.out) hx
            have hgo : ga < wq.heap.size := by omega
            have Htk : Hid ((S.map (·.name)).take (j + 1) = (S.map (·.name)).take j ++ [x.name]) := Lib.hid (name_row hx)
            have hji : (j : Int) < (n : Int) := by omega
            have hj0 : (0 : Int) ≤ (j : Int) := by omega
            obtain ⟨nx, hnx⟩ : ∃ nx, nx = B x.name := ⟨_, rfl⟩
            rw [← hnx] at c0
            have Hnx := Lib.hid hnx
            clear hx hnx
            focus
              go_wp2_with (at_builtin; go_must (refine wpList_append_lit rfl _ _ 38 rfl 9 i0 _ 16 Tryz.underlying38 hi hz0 hz1 hz2 rfl _ 1 (by omega) (by rfl) (by rfl) w4.heap.size _ j _ (by rfl) HO.out (by simp [Value.oneCell']) (by omega) (by omega) (by omega) ?_))
            intro g' cap' w5 hown5 hgrow5 hat5 hz5 hlt5
            have HO5 : Hid (w5.ownsRow w4.heap.size 9 1 (.slice (some ⟨g', 0, none⟩) (j + 1) cap') (j + 1) (rw.flat stC ((S.map (·.name)).take (j + 1)))) := Lib.hid (by
              rw [Htk.out, rw.flat_snoc]
              show w5.ownsRow w4.heap.size 9 1 _ (j + 1) (_ ++ [.string (B x.name)])
              rw [← Hnx.out]
              exact hown5)
            have Hb5 := Lib.hid (below_grown_own Hbq.out HO.out hgrow5 hzq)
            clear hown5 hgrow5 hat5 hz5 hlt5 c0
            go_wp2_with fail
            go_roundw
            case rel => exact ⟨j + 1, cap', some ⟨g', 0, none⟩, by omega, by go_num, rfl, HO5, Hb5⟩
            case measure => simp [intOf]; omega
          · obtain rfl : j = n := by omega
            have HNr := Lib.hid (rw.own_new stC_len (by decide) HO.out)
            have HSq := Lib.hid (HS4.out.later Hbq.out)
            have Hwq := Lib.hid (then_bel Hb4.out hz4 Hbq.out)
            go_wp2_with fail
            go_ret2
            refine ⟨⟨b, _, rfl, HSq.out, ?_⟩, Hwq.out⟩
            have h := HNr.out.mono hz4
            rwa [List.take_of_length_le (by rw [List.length_map, ← Hn.out]; exact Nat.le_refl _)] at h
  | false =>
    go_enter Tryz.func25, Tryz.ntmps25
    go_wp2_with fail
    refine HNw.out.mono ?_
    rintro e w2 ⟨rfl, hS1, hb2⟩
    have hM : Hid (S = addAll [] l) := Lib.hid HSe.out
    clear HSe
    obtain ⟨b, hbe⟩ : ∃ b, b = w.heap.size := ⟨_, rfl⟩
    have HS2 : Hid (SetK w.heap.size w2 b (addAll [] (l.take 0))) := Lib.hid (by rw [hbe]; exact hS1)
    have Hb2 : Hid (Below w.heap.size w w2) := Lib.hid hb2
    clear hS1
    rw [← hbe]
    generalize ([] : List Ky) = S0 at *
    clear hb2 HNw hbe
    go_wp2_with fail
    go_loopw [7] (fun vi wr => ∃ k : Nat, k ≤ nk ∧ vi = .int .i64 k ∧ Hid (SetK w.heap.size wr b (addAll S0 (l.take k))) ∧ Hid (Below w.heap.size w wr)) (fun vi _ => nk - (intOf vi).toNat)
    case atStart => exact ⟨0, by omega, rfl, HS2, Hb2⟩
    case round =>
      clear HS2 Hb2
      obtain ⟨wo, rfl⟩ : ∃ wo, wo = wr := ⟨_, rfl⟩
      obtain ⟨k, hk, rfl, HS, Hb⟩ := hrel
      have hzo : w.heap.size ≤ wo.heap.size := Hb.out.size
      by_cases hlt : k < nk
      · obtain ⟨x, hx⟩ : ∃ x, l[k]? = some x := ⟨_, List.getElem?_eq_getElem (by rw [Hnk.out]; exact hlt)⟩
        obtain ⟨gk, ok, rfl, hgk⟩ := Hptr.out (by omega)
        obtain ⟨c0, c1, c2, c3, c4, c5⟩ := ky_cells (HK.out.later Hb.out) hx
        have hgo : gk < wo.heap.size := by omega
        have HA := Lib.hid (Add_any w.heap.size b _ x wo HS.out (Hok.out x (List.mem_of_getElem? hx)) hzo (HV.out _ Hb.out))
        rw [← addAll_next hx] at HA
        have hki : (k : Int) < (nk : Int) := by omega
        have hk0 : (0 : Int) ≤ (k : Int) := by omega
        generalize addE (addAll S0 (l.take k)) x = er at *
        clear hx
        generalize B x.name = nx at *
        generalize B x.dflt = dx at *
        generalize B x.letter = lx at *
        generalize x.kind = kx at *
        generalize x.least = ex at *
        generalize x.most = ox at *
        go_wp2_with fail
        refine HA.out.mono ?_
        rintro e w3 ⟨rfl, hS3, hb3⟩
        have HS3 := Lib.hid hS3
        have Hb3 : Hid (Below w.heap.size w w3) := Lib.hid (Hb.out.trans hb3)
        clear hS3 hb3 c0 c1 c2 c3 c4 c5
        go_wp2_with fail
        go_roundw
        case rel => exact ⟨k + 1, by omega, by go_num, HS3, Hb3⟩
        case measure => simp [intOf]; omega
      · obtain rfl : k = nk := by omega
        have htk : l.take k = l := List.take_of_length_le (by rw [Hnk.out]; exact Nat.le_refl _)
        have hSk := HS.out
        rw [htk, ← hM.out] at hSk
        have HSl := Lib.hid hSk
        clear htk hSk HS hM
        have HAl := Lib.hid (All_any w.heap.size b S wo HSl.out)
        have hlen := HSl.out.len
        obtain ⟨n, hn⟩ : ∃ n, n = S.length := ⟨_, rfl⟩
        rw [← hn] at HAl hlen
        have Hn := Lib.hid hn
        clear hn
        go_wp2_with fail
        refine HAl.out.mono ?_
        rintro e w4 ⟨⟨pa, rfl, hn4⟩, hb4⟩
        have HK4 : Hid (Kys w4 (.slice pa n n) S) := Lib.hid (hn4.rw kyC_len)
        have Hp4 := Lib.hid HK4.out.ptr.2.2
        have HS4 := Lib.hid (HSl.out.later hb4)
        have Hb4 := Lib.hid (then_bel Hb.out hzo hb4)
        have HO4 : Hid (w4.ownsRow w4.heap.size 9 1 (.slice none 0 0) 0 (rw.flat stC ((S.map (·.name)).take 0))) := Lib.hid ⟨rfl, .inl ⟨rfl, rfl⟩⟩
        have hz4 : w.heap.size ≤ w4.heap.size := Hb4.out.size
        clear hn4 hb4 HAl HSl
        go_wp2_with fail
        go_loopw [9, 10] (fun vo vi wr => ∃ (j co : Nat) (po : Option Addr), j ≤ n ∧ vi = .int .i64 j ∧ vo = .slice po j co ∧ Hid (wr.ownsRow w4.heap.size 9 1 (.slice po j co) j (rw.flat stC ((S.map (·.name)).take j))) ∧ Hid (Below w4.heap.size w4 wr)) (fun _ vi _ => n - (intOf vi).toNat)
        case atStart => exact ⟨0, 0, none, by omega, rfl, rfl, HO4, Lib.hid (Below.refl _ _)⟩
        case round =>
          clear HO4
          obtain ⟨wq, rfl⟩ : ∃ wq, wq = wr := ⟨_, rfl⟩
          obtain ⟨j, co, po, hj, rfl, rfl, HO, Hbq⟩ := hrel
          have hzq : w4.heap.size ≤ wq.heap.size := Hbq.out.size
          by_cases hltj : j < n
          · obtain ⟨x, hx⟩ : ∃ x, S[j]? = some x := ⟨_, List.getElem?_eq_getElem (by rw [← Hn.out]; exact hltj)⟩
            obtain ⟨ga, oa, rfl, hga⟩ := Hp4.out (by omega)
            obtain ⟨c0, _⟩ := ky_cells (HK4.out.later Hbq.out) hx
            have hgo : ga < wq.heap.size := by omega
            have Htk : Hid ((S.map (·.name)).take (j + 1) = (S.map (·.name)).take j ++ [x.name]) := Lib.hid (name_row hx)
            have hji : (j : Int) < (n : Int) := by omega
            have hj0 : (0 : Int) ≤ (j : Int) := by omega
            obtain ⟨nx, hnx⟩ : ∃ nx, nx = B x.name := ⟨_, rfl⟩
            rw [← hnx] at c0
            have Hnx := Lib.hid hnx
            clear hx hnx
            focus
              go_wp2_with (at_builtin; go_must (refine wpList_append_lit rfl _ _ 38 rfl 9 i0 _ 16 Tryz.underlying38 hi hz0 hz1 hz2 rfl _ 1 (by omega) (by rfl) (by rfl) w4.heap.size _ j _ (by rfl) HO.out (by simp [Value.oneCell']) (by omega) (by omega) (by omega) ?_))
            intro g' cap' w5 hown5 hgrow5 hat5 hz5 hlt5
            have HO5 : Hid (w5.ownsRow w4.heap.size 9 1 (.slice (some ⟨g', 0, none⟩) (j + 1) cap') (j + 1) (rw.flat stC ((S.map (·.name)).take (j + 1)))) := Lib.hid (by
              rw [Htk.out, rw.flat_snoc]
              show w5.ownsRow w4.heap.size 9 1 _ (j + 1) (_ ++ [.string (B x.name)])
              rw [← Hnx.out]
              exact hown5)
            have Hb5 := Lib.hid (below_grown_own Hbq.out HO.out hgrow5 hzq)
            clear hown5 hgrow5 hat5 hz5 hlt5 c0
            go_wp2_with fail
            go_roundw
            case rel => exact ⟨j + 1, cap', some ⟨g', 0, none⟩, by omega, by go_num, rfl, HO5, Hb5⟩
            case measure => simp [intOf]; omega
          · obtain rfl : j = n := by omega
            have HNr := Lib.hid (rw.own_new stC_len (by decide) HO.out)
            have HSq := Lib.hid (HS4.out.later Hbq.out)
            have Hwq := Lib.hid (then_bel Hb4.out hz4 Hbq.out)
            go_wp2_with fail
            go_ret2
            refine ⟨⟨b, _, rfl, HSq.out, ?_⟩, Hwq.out⟩
            have h := HNr.out.mono hz4
            rwa [List.take_of_length_le (by rw [List.length_map, ← Hn.out]; exact Nat.le_refl _)] at h
end Go.Proofs.YtpfhhaonfbfheaaGreatDoor.en
/- Package key: Add leaves what lies elsewhere; where its new list lies. Conditions: texts of at most 2147483647 bytes; the listed variables hold what the program's text lays. -/
namespace Go.Proofs.YtpfhhaonfbfheaaGreatDoor.fl
open Go.ChangeShapes Go.WideShapes Go.ChangeAt Go.RowKit gl va ls ky

/-- The new slice lies where the old one lay, or in new memory. -/
def At (w : World) (v v' : Value) : Prop := ∀ g, v'.ownBlock = some g → v.ownBlock = some g ∨ w.heap.size ≤ g
/-- Of a variable of one slice at block b: what is not its block and not its list's stays. -/
def Far (T : TypeId) (w w' : World) (b : Nat) : Prop := ∀ v, w.heap[b]? = some (.cells #[v] T (0, 0)) → ∃ v', w'.heap[b]? = some (.cells #[v'] T (0, 0)) ∧ Upd (b :: v.ownBlock.toList) w w' ∧ At w v v'
theorem Far.below {T : TypeId} {w w' : World} {b : Nat} (_hb : b < w.heap.size) (h : Below w.heap.size w w') : Far T w w' b := fun v hv =>
  ⟨v, (h.block _ (lt_of_block hv)).trans hv, Upd.of_below h _, fun _ hg => .inl hg⟩
theorem Far.grown {T : TypeId} {w W w' : World} {b : Nat} {v v' : Value} (_hb : b < w.heap.size) (h : Below w.heap.size w W) (hv : W.heap[b]? = some (.cells #[v] T (0, 0))) (hg : W.grownBy w' v.ownBlock) (hat : At W v v') (h2 : w'.heap[b]? = some (.cells #[v] T (0, 0))) :
    Far T w (w'.setCell ⟨b, 0, none⟩ v') b := fun v0 hv0 => by
  have e := (h.block _ (lt_of_block hv0)).trans hv0
  rw [hv] at e
  injection e with e
  injection e with e _ _
  have e2 := congrArg (fun x => x.getD 0 undef) e
  have e3 : v = v0 := e2
  subst e3
  refine ⟨v', heap_set h2 v', ?_, fun g hg => (hat g hg).imp id (fun h3 => Nat.le_trans h.size h3)⟩
  have u1 : Upd (b :: v.ownBlock.toList) w W := Upd.of_below h _
  have u2 : Upd (b :: v.ownBlock.toList) W w' := Upd.of_grown hg (fun k hk => by rw [hk]; simp)
  exact (u1.trans u2 (fun k hk => .inl hk)).setCell (p := ⟨b, 0, none⟩) (.inl (by simp)) v'
section
variable {P : Program}
theorem run_append_at (w : World) (t ty : TypeId) (M : Nat) (e : TypeId) (i : TypeInfo) (z : Value) (size bytes : Nat) (ht : P.underlying t = some (.slice e)) (hi : P.info? e = some i) (hz : i.zero = some z)
    (hsize : i.size = size) (hby : i.bytes = bytes) (hzs : z.cells.size = size) (hsz : 0 < size)
    (v : Value) (n : Nat) (xs : List Value) (hB : Blk e size M w v n xs) (y : Value) (m : Nat) (news : List Value) (hm : 0 < m) (hy : SrcV w y m news) (hl : news.length = m * size) (h1 : ∀ u ∈ news, u.oneCell' = true)
    (h63 : n + m ≤ maxLen) (hbytes : (n + m) * bytes ≤ 140737488355328) (hM : M ≤ w.heap.size) :
    ∃ p c w', (Builtin.append_ #[t, t] ty #[v, y]).run P w = .ok (.slice p (n + m) c) w' ∧ Blk e size M w' (.slice p (n + m) c) (n + m) (xs ++ news) ∧ w.grownBy w' v.ownBlock ∧ At w v (.slice p (n + m) c) := by
  obtain ⟨h0, ⟨rfl, rfl⟩ | ⟨g, c, cs, rfl, hnc, hMg, hb, hcs, htake⟩⟩ := hB
  · obtain ⟨p, cap, w', hr, h2, h3⟩ := run_append_any (P := P) w t ty w.heap.size e i z size bytes ht hi hz hsize hby hzs hsz (.slice none 0 0) 0 xs ⟨h0, .inl ⟨rfl, rfl⟩⟩ y m news hy hl h1 h63 hbytes (Nat.le_refl _)
    exact ⟨p, cap, w', hr, (Blk.of_own h2).mono hM, h3, fun g hg => .inr (h2.lt g hg).1⟩
  · rcases hy with ⟨h, _⟩ | ⟨_, ad, c', rfl, hc⟩
    · omega
    have hcut : ∀ (j : Nat) (u : Value), xs[j]? = some u → w.cell? ⟨g, j, none⟩ = some u := fun j u hj => by
      rw [cell_in hb, ← Array.getElem?_toList]
      rw [← htake, List.getElem?_take] at hj
      split at hj
      · exact hj
      · cases hj
    by_cases hroom : n + m ≤ c
    · have hsum : n * size + m * size ≤ cs.size := by
        have := Nat.mul_le_mul_right size hroom
        rw [Nat.add_mul] at this
        omega
      have hr := run_append_room_cells (P := P) w t ty e i ht hi g 0 n c ad m c' news (by rw [hl, hsize]) hc h1 hroom (fun j hj => by rw [cell_in hb, Nat.zero_add, hsize, Array.getElem?_eq_getElem (by omega)]; rfl) (fun j hj => free_in hb)
      rw [Nat.zero_add, hsize] at hr
      refine ⟨_, c, _, hr, ⟨by rw [List.length_append, h0, hl, Nat.add_mul], .inr ⟨g, c, setR cs (n * size) news, rfl, hroom, hMg, heap_setCells news w cs (n * size) hb, by rw [setR_size]; exact hcs, ?_⟩⟩, ?_, fun q hq => .inl hq⟩
      · rw [Nat.add_mul, ← hl, take_setR (by omega), htake]
      · have hu := upd_setCells (S := [g]) (a := w) (g := g) (.inl (by simp)) news w (n * size) (Upd.refl _ _)
        exact ⟨hu.os, hu.tape, hu.output, hu.size, fun k hk hne => hu.block k hk (fun hm => hne (by rw [List.mem_singleton.1 hm]; rfl))⟩
    · obtain ⟨v', w', hr, h2, h3⟩ := run_append_arg_grows (P := P) w t ty e i z size bytes ht hi hz hsize hby hzs hsz ⟨g, 0, none⟩ n c xs h0 (fun j u hj => by rw [addN, Nat.zero_add]; exact hcut j u hj) ad m c' news hl hc (by omega) h63 hbytes
      obtain ⟨p, c2, rfl⟩ := Blk.form (Blk.of_own h2)
      exact ⟨p, c2, w', hr, (Blk.of_own h2).mono hM, ⟨h3.os, h3.tape, h3.output, h3.size, fun k hk _ => h3.block k hk (by simp)⟩, fun q hq => .inr (h2.lt q hq).1⟩
theorem wpList_append_at {ops : Array Oper} {rest : List Oper} {o : Oper} {a : Act} {w : World} {Q : Exit → Act → World → Prop} (hgd : o.guard = none) (s x : Operand) (t : TypeId)
    (ho : o.op = .call { callee := .builtin .append, args := #[s, x], argTypes := #[t, t] })
    (e : TypeId) (i : TypeInfo) (z : Value) (size bytes : Nat) (ht : P.underlying t = some (.slice e)) (hi : P.info? e = some i) (hz : i.zero = some z)
    (hsize : i.size = size) (hby : i.bytes = bytes) (hzs : z.cells.size = size) (hsz : 0 < size)
    (M : Nat) (v : Value) (n : Nat) (xs : List Value) (hs : a.eval s = v) (hB : Blk e size M w v n xs) (y : Value) (m : Nat) (news : List Value) (hm : 0 < m) (hx : a.eval x = y) (hy : SrcV w y m news) (hl : news.length = m * size)
    (h1 : ∀ u ∈ news, u.oneCell' = true) (h63 : n + m ≤ 9223372036854775807) (hbytes : (n + m) * bytes ≤ 140737488355328) (hM : M ≤ w.heap.size)
    (h : ∀ p c w', Blk e size M w' (.slice p (n + m) c) (n + m) (xs ++ news) → w.grownBy w' v.ownBlock → At w v (.slice p (n + m) c) → wpList P ops Q rest (a.put o.dst (.slice p (n + m) c)) w') :
    wpList P ops Q (o :: rest) a w := by
  refine wpList_plain hgd fun K hK => ?_
  obtain ⟨p, c, w', hr, h2, h3, h4⟩ := run_append_at (P := P) w t o.type M e i z size bytes ht hi hz hsize hby hzs hsz v n xs hB y m news hm hy hl h1 (by unfold maxLen; omega) hbytes hM
  unfold Oper.wp execOp
  simp only [ho, resolve, invoke, builtin, Sem.run_bind, Sem.run_pure, Result.andThen_ok, List.map_toArray, List.map_cons, List.map_nil, hs, hx, hr]
  exact hK _ _ (h p c w' h2 h3 h4)
end
set_option maxHeartbeats 4000000 in
set_option maxRecDepth 100000 in
/-- At the end: an append. -/
theorem insert_endA (M : Nat) (v : Value) (n : Nat) (xs : List Value) (g : Nat) (x : Ky) (hn : n ≤ 64) (w : World) (hM : M ≤ w.heap.size) (hB : Blk 62 6 M w v n xs) (hg : w.heap[g]? = some (.cells (kyC x).toArray 62 (0, 0))) :
    Calls Tryz.prog 73 #[v, .int .i64 (n : Nat), .slice (some ⟨g, 0, none⟩) 1 1] w fun e w' => ∃ v', e = .returned v' ∧ Blk 62 6 M w' v' (n + 1) (xs ++ kyC x) ∧ w.grownBy w' v.ownBlock ∧ At w v v' := by
  obtain ⟨i0, si, sz0, sz1, sz2⟩ := info_parts infoK
  obtain ⟨p, c, rfl⟩ := hB.form
  have hnc : n ≤ c := by
    rcases hB.2 with ⟨h, h0⟩ | ⟨g, c', cs, h, h1, _⟩
    · omega
    · cases h; exact h1
  have HB := Lib.hid hB
  have Hsrc : Hid (SrcV w (.slice (some ⟨g, 0, none⟩) 1 1) 1 (kyC x)) := Lib.hid (.inr ⟨by decide, _, _, rfl, fun j u hj => by
    rw [addN, cell_in hg, Nat.zero_add, List.getElem?_toArray]
    exact hj⟩)
  have Hr1 := Lib.hid (kyC_one x)
  have q0 : ((1 : Int) == 0) = false := by decide
  have q1 : ((n : Int) == (n : Int)) = true := by simp
  have q2 : (0 : Int) ≤ (n : Int) := by omega
  have q3 : (n : Int) ≤ (n : Int) := by omega
  clear hB hg
  by_cases hcn : c = n
  case' pos => subst hcn
  all_goals
    go_enter Tryz.func73, Tryz.ntmps73
    focus
      go_wp2_with (at_builtin; go_must (refine wpList_append_at rfl _ _ 27 rfl 62 i0 _ 6 72 Tryz.underlying27 si sz0 sz1 sz2 rfl (by decide) M _ _ _ (by rfl) HB.out _ 1 _ (by decide) (by rfl) Hsrc.out (by rfl) Hr1.out (by omega) (by omega) (by omega) ?_))
    intro p' cap w5 hown hgrow hsh
    go_wp2_with fail
    go_ret
    exact ⟨_, rfl, hown, hgrow, hsh⟩
theorem insert_anyA (M : Nat) (v : Value) (S : List Ky) (k : Nat) (hk : k ≤ S.length) (x : Ky) (g : Nat) (hn : S.length ≤ 64) (w : World) (hM : M ≤ w.heap.size) (hB : Blk 62 6 M w v S.length (rw.flat kyC S)) (hg : w.heap[g]? = some (.cells (kyC x).toArray 62 (0, 0))) (hne : ∀ q, v.ownBlock = some q → g ≠ q) :
    Calls Tryz.prog 73 #[v, .int .i64 (k : Nat), .slice (some ⟨g, 0, none⟩) 1 1] w fun e w' => ∃ v', e = .returned v' ∧ Blk 62 6 M w' v' (S.length + 1) (rw.flat kyC (S.take k ++ x :: S.drop k)) ∧ w.grownBy w' v.ownBlock ∧ At w v v' := by
  rcases Nat.lt_or_ge k S.length with hlt | hge
  · have hB' := hB
    rcases hB.2 with ⟨rfl, h0⟩ | ⟨q, c, cur, rfl, hnc, hq, hb, hcs, ht⟩
    · omega
    have hgq : g ≠ q := hne q rfl
    have hfl := rw.flat_len kyC_len S
    have h1c := rw.flat_one kyC_one S
    by_cases hroom : S.length + 1 ≤ c
    · refine (insert_shift q S.length c k g 1 (rw.flat kyC S) (kyC x) cur w hlt (by decide) hroom (by omega) hgq hfl rfl hb hcs (blk_cell hB') hg h1c (kyC_one x)).mono fun e w' h => ?_
      obtain ⟨rfl, rfl⟩ := h
      obtain ⟨h1, h2⟩ := blk_shift (vs := kyC x) hB' (Nat.le_of_lt hlt) hroom rfl
      rw [flat_ins] at h1
      exact ⟨_, rfl, h1, ⟨h2.os, h2.tape, h2.output, h2.size, fun j hj hne => h2.block j hj (fun hm => hne (by rw [List.mem_singleton.1 hm]; rfl))⟩, fun q hq => .inl hq⟩
    · refine (insert_grow q S.length c k g 1 (rw.flat kyC S) (kyC x) cur w hlt (by decide) hnc (by omega) (by omega) hfl rfl hb (blk_cell hB') hg h1c (kyC_one x)).mono fun e w' h => ?_
      obtain ⟨G, ROW, hG, hR, hT, rfl, rfl⟩ := h
      obtain ⟨h1, h2⟩ := blk_new (T := 62) (w := w) hT hfl (Nat.le_of_lt hlt) (show (kyC x).length = 6 from rfl) hG hR
      rw [flat_ins] at h1
      exact ⟨_, rfl, h1.mono hM, ⟨h2.os, h2.tape, h2.output, h2.size, fun j hj _ => h2.block j hj⟩, fun q hq => .inr (by cases hq; exact Nat.le_refl _)⟩
  · obtain rfl : k = S.length := by omega
    refine (insert_endA M v S.length _ g x hn w hM hB hg).mono fun e w' h => ?_
    obtain ⟨v', rfl, h1, h2, h3⟩ := h
    refine ⟨v', rfl, ?_, h2, h3⟩
    rw [List.take_of_length_le (Nat.le_refl _), List.drop_of_length_le (Nat.le_refl _)]
    rw [rw.flat_snoc]
    exact h1
set_option maxHeartbeats 4000000 in
set_option maxRecDepth 100000 in
theorem Add_far (M b : Nat) (S : List Ky) (x : Ky) (w : World) (hS : SetK M w b S) (hx : KyOk x) (hM : M ≤ w.heap.size) (hV : Vlo w) :
    Calls Tryz.prog 48 #[.pointer (some ⟨b, 0, none⟩), .agg #[.string (B x.name), .int .i64 x.kind, .string (B x.dflt), .int .i64 x.least, .int .i64 x.most, .string (B x.letter)]] w fun e w' => e = .returned (.int .i64 (addE S x)) ∧ SetK M w' b (addK S x) ∧ Below M w w' ∧ Far 85 w w' b := by
  obtain ⟨wA, hA⟩ : ∃ wA, wA = w.alloc (.cells #[.string (B x.name), .int .i64 x.kind, .string (B x.dflt), .int .i64 x.least, .int .i64 x.most, .string (B x.letter)] 62) := ⟨_, rfl⟩
  have kA : wA.heap[w.heap.size]? = some (.cells #[.string (B x.name), .int .i64 x.kind, .string (B x.dflt), .int .i64 x.least, .int .i64 x.most, .string (B x.letter)] 62 (0, 0)) := by rw [hA]; exact heap_alloc_new w _
  have hbA : Below w.heap.size w wA := by rw [hA]; exact (Below.refl _ _).alloc (Nat.le_refl _) _
  have HS := Lib.hid hS
  have HX := Lib.hid hx
  have HF := Lib.hid fun (W : World) (hW : Below w.heap.size w W) => formed_any x hx W ((hV.below hW (Nat.le_refl _)).glo)
  have HP : Hid (∀ (W : World), Below w.heap.size w W → ∀ {a bb : Int} {t : ByteArray} {ws : List ByteArray} {er : Int}, parse wordL x.kind x.dflt = (⟨a, bb, t, ws⟩, er) → Calls Tryz.prog 71 #[.int .i64 x.kind, .string (B x.dflt)] W fun e w' => (∃ (p : Option Addr) (n c : Nat), e = .returned (.tuple #[.agg #[.int .i64 a, .int .i64 bb, .string t, .slice p n c], .int .i64 er]) ∧ Strs w' (.slice p n c) ws ∧ n = ws.length) ∧ Below W.heap.size W w') := Lib.hid fun W hW a bb t ws er h => parsed x.kind (B x.dflt) (by rw [show (B x.dflt).size = x.dflt.length by simp [ByteArray.size]]; exact hx.2.1) (by rw [B_list]; exact h) W (hV.below hW (Nat.le_refl _))
  have HVl := Lib.hid fun (W : World) (hW : Below w.heap.size w W) => hV.below hW (Nat.le_refl _)
  have HFo := Lib.hid fun (W : World) (hW : Below w.heap.size w W) => found_any M b S x.name W (hS.later hW)
  have HLe : Hid (∀ (W : World), Below w.heap.size w W → Calls Tryz.prog 42 #[.pointer (some ⟨b, 0, none⟩), .string (B x.letter)] W fun e w' => e = .returned (.tuple #[.agg #[.string (B ((lettK S x.letter).getD zK).name), .int .i64 ((lettK S x.letter).getD zK).kind, .string (B ((lettK S x.letter).getD zK).dflt), .int .i64 ((lettK S x.letter).getD zK).least, .int .i64 ((lettK S x.letter).getD zK).most, .string (B ((lettK S x.letter).getD zK).letter)], .bool (lettK S x.letter).isSome]) ∧ Below W.heap.size W w') := Lib.hid fun W hW => by
    have h := Letter_any M b S x.letter W (hS.later hW)
    rw [foundV_form] at h
    exact h
  have HkA := Lib.hid kA
  have HbA := Lib.hid hbA
  have HA := Lib.hid hA
  have E1 := Lib.hid (@addE_form S x)
  have E2 := Lib.hid (@addE_dflt S x)
  have E3 := Lib.hid (@addE_rest S x)
  have N1 := Lib.hid (@add_no S x)
  have HD := Lib.hid (dflt_ways x)
  have HMw := Lib.hid hM
  have hbw := hS.lt
  have Hne : Hid (∀ W, Below w.heap.size w W → addE S x ≠ 0 → SetK M W b (addK S x) ∧ Below M w W ∧ Far 85 w W b) := Lib.hid fun W hW hn => by
    rw [add_no hn]
    exact ⟨hS.later hW, hW.mono hM, Far.below hbw hW⟩
  clear kA hbA hA hV hx hS
  generalize (lettK S x.letter).getD zK = yl at *
  obtain ⟨r, hr⟩ : ∃ r, parse wordL x.kind x.dflt = r := ⟨_, rfl⟩
  obtain ⟨⟨ra, rb, rt, rw_⟩, er⟩ := r
  have HPr := Lib.hid fun W hW => HP.out W hW hr
  rw [hr] at HD
  dsimp only at HD
  clear hr HP
  obtain ⟨nm, hnm⟩ : ∃ nm, nm = B x.name := ⟨_, rfl⟩
  obtain ⟨df, hdf⟩ : ∃ df, df = B x.dflt := ⟨_, rfl⟩
  obtain ⟨lt, hlt⟩ : ∃ lt, lt = B x.letter := ⟨_, rfl⟩
  have Hnm := Lib.hid hnm
  have Hdf := Lib.hid hdf
  have Hlt := Lib.hid hlt
  rw [← hnm, ← hdf, ← hlt] at HF HkA HA
  rw [← hnm] at HFo
  rw [← hdf] at HPr
  rw [← hlt] at HLe
  rw [← hnm, ← hdf, ← hlt]
  clear hnm hdf hlt
  go_enter Tryz.func48, Tryz.ntmps48
  go_wp2_with fail
  rw [← HA.out]
  refine (HF.out _ HbA.out).mono ?_
  rintro e w1 ⟨rfl, hb1⟩
  have Hb1 := Lib.hid (ky.then_bel HbA.out hb1)
  have hk1 := (hb1.block _ (lt_of_block HkA.out)).trans HkA.out
  have a1 : w1.cell? ⟨w.heap.size, 1, none⟩ = some (.int .i64 x.kind) := cell_in hk1
  have a2 : w1.cell? ⟨w.heap.size, 2, none⟩ = some (.string df) := cell_in hk1
  have hgw1 : w.heap.size < w1.heap.size := lt_of_block hk1
  have Hk1 := Lib.hid hk1
  clear hb1 hk1
  obtain ⟨fx, hfx⟩ : ∃ fx, formL x = fx := ⟨_, rfl⟩
  rw [hfx]
  have Hfx := Lib.hid hfx
  clear hfx
  cases fx with
  | false =>
    have he := Lib.hid (E1.out Hfx.out)
    go_wp2_with fail
    go_ret
    refine ⟨by rw [he.out]; rfl, Hne.out _ Hb1.out (by rw [he.out]; decide)⟩
  | true =>
    go_wp2_with fail
    refine (HPr.out _ Hb1.out).mono ?_
    rintro e w2 ⟨⟨p, n, c, rfl, hst, hn⟩, hb2⟩
    have Hst := Lib.hid hst
    have Hb2 := Lib.hid (ky.then_bel Hb1.out hb2)
    have hk2 := (hb2.block _ (lt_of_block Hk1.out)).trans Hk1.out
    have a0 : w2.cell? ⟨w.heap.size, 0, none⟩ = some (.string nm) := cell_in hk2
    have a3 : w2.cell? ⟨w.heap.size, 3, none⟩ = some (.int .i64 x.least) := cell_in hk2
    have a4 : w2.cell? ⟨w.heap.size, 4, none⟩ = some (.int .i64 x.most) := cell_in hk2
    have hgw2 : w.heap.size < w2.heap.size := lt_of_block hk2
    have Hk2 := Lib.hid hk2
    clear hb2 hk2 a1 a2 hst hn
    rcases HD.out with ⟨her, hd⟩ | ⟨her, hvb, hd⟩
    · have he := Lib.hid (E2.out Hfx.out hd)
      have q1 : (er == 0) = false := by simpa using her
      have q2 : (er != 0) = true := by simpa using her
      clear hd her
      go_wp2_with fail
      go_ret
      refine ⟨by rw [he.out]; rfl, Hne.out _ ?_ (by rw [he.out]; decide)⟩
      repeat (first | exact Hb2.out | refine Below.setCell ?_ (by simp only; omega) _ | refine Below.alloc ?_ (by omega) _)
    · subst her
      have HWi : Hid (∀ W, Below w2.heap.size w2 W → Calls Tryz.prog 72 #[.agg #[.int .i64 ra, .int .i64 rb, .string rt, .slice p n c], .int .i64 x.least, .int .i64 x.most] W fun e w' => e = .returned (.bool (dfltL x)) ∧ Below w2.heap.size w2 w') := Lib.hid fun W hW => by
        refine (Within_any ⟨ra, rb, rt, rw_⟩ hvb x.least x.most (.slice p n c) W (HVl.out _ (ky.then_bel Hb2.out hW)) (Hst.out.below hW (Nat.le_refl _))).mono fun e w' h => ?_
        exact ⟨by rw [hd]; exact h.1, ky.then_bel hW h.2⟩
      clear hd hvb
      go_wp2_with fail
      refine (HWi.out _ (by repeat (first | exact Below.refl _ _ | refine Below.setCell ?_ (by simp only; omega) _ | refine Below.alloc ?_ (by simp) _))).mono ?_
      rintro e w4 ⟨rfl, hb4⟩
      have Hb4 := Lib.hid (ky.then_bel Hb2.out hb4)
      have hk4 := (hb4.block _ (lt_of_block Hk2.out)).trans Hk2.out
      have d0 : w4.cell? ⟨w.heap.size, 0, none⟩ = some (.string nm) := cell_in hk4
      have hgw4 : w.heap.size < w4.heap.size := lt_of_block hk4
      have Hk4 := Lib.hid hk4
      clear hb4 hk4 a0 a3 a4 HWi
      obtain ⟨dx, hdx⟩ : ∃ dx, dfltL x = dx := ⟨_, rfl⟩
      rw [hdx]
      have Hdx := Lib.hid hdx
      clear hdx
      cases dx with
      | false =>
        have he := Lib.hid (E2.out Hfx.out Hdx.out)
        go_wp2_with fail
        go_ret
        exact ⟨by rw [he.out]; rfl, Hne.out _ Hb4.out (by rw [he.out]; decide)⟩
      | true =>
        have he3 := Lib.hid (E3.out Hfx.out Hdx.out)
        go_wp2_with fail
        refine (HFo.out _ Hb4.out).mono ?_
        rintro e w5 ⟨⟨k, is, rfl, hFnd⟩, hb5⟩
        have HFnd := Lib.hid hFnd
        have Hff := Lib.hid (found_find HS.out.asc hFnd)
        have Hb5 := Lib.hid (ky.then_bel Hb4.out hb5)
        have hk5 := (hb5.block _ (lt_of_block Hk4.out)).trans Hk4.out
        have d5 : w5.cell? ⟨w.heap.size, 5, none⟩ = some (.string lt) := cell_in hk5
        have hgw5 : w.heap.size < w5.heap.size := lt_of_block hk5
        have Hk5 := Lib.hid hk5
        clear hb5 hk5 d0 hFnd
        go_wp2_with fail
        refine (HLe.out _ Hb5.out).mono ?_
        rintro e w6 ⟨rfl, hb6⟩
        have Hb6 := Lib.hid (ky.then_bel Hb5.out hb6)
        have hk6 := (hb6.block _ (lt_of_block Hk5.out)).trans Hk5.out
        have hgw6 : w.heap.size < w6.heap.size := lt_of_block hk6
        have Hk6 := Lib.hid hk6
        clear hb6 hk6 d5
        obtain ⟨p7, c7, hset6, _⟩ := (HS.out.later Hb6.out).form
        have s6 : w6.cell? ⟨b, 0, none⟩ = some (.slice p7 S.length c7) := cell_in hset6
        have hbw6 : b < w6.heap.size := lt_of_block hset6
        clear hset6
        obtain ⟨lx, hlx⟩ : ∃ lx, (lettK S x.letter).isSome = lx := ⟨_, rfl⟩
        rw [hlx]
        have Hlx := Lib.hid hlx
        clear hlx
        cases is with
        | true =>
          have he : Hid (addE S x = 51) := Lib.hid (by
            obtain ⟨y, _, hf⟩ := Hff.out.1 rfl
            rw [he3.out, hf]; rfl)
          go_wp2_with fail
          go_ret
          refine ⟨by rw [he.out]; rfl, Hne.out _ ?_ (by rw [he.out]; decide)⟩
          repeat (first | exact Hb6.out | refine Below.setCell ?_ (by simp only; omega) _ | refine Below.alloc ?_ (by omega) _)
        | false =>
          have Hnone := Lib.hid (Hff.out.2 rfl)
          cases lx with
          | true =>
            have he : Hid (addE S x = 52) := Lib.hid (by rw [he3.out, Hnone.out, Hlx.out]; rfl)
            go_wp2_with fail
            go_ret
            refine ⟨by rw [he.out]; rfl, Hne.out _ ?_ (by rw [he.out]; decide)⟩
            repeat (first | exact Hb6.out | refine Below.setCell ?_ (by simp only; omega) _ | refine Below.alloc ?_ (by omega) _)
          | false =>
            by_cases hlen : S.length = 64
            · have he : Hid (addE S x = 54) := Lib.hid (by rw [he3.out, Hnone.out, Hlx.out, if_pos hlen]; rfl)
              have q1 : ((S.length : Int) == 64) = true := by rw [hlen]; rfl
              clear hlen
              go_wp2_with fail
              go_ret
              refine ⟨by rw [he.out]; rfl, Hne.out _ ?_ (by rw [he.out]; decide)⟩
              repeat (first | exact Hb6.out | refine Below.setCell ?_ (by simp only; omega) _ | refine Below.alloc ?_ (by omega) _)
            · have he : Hid (addE S x = 0) := Lib.hid (by rw [he3.out, Hnone.out, Hlx.out, if_neg hlen]; rfl)
              have q1 : ((S.length : Int) == 64) = false := by simp; omega
              have Hlen := Lib.hid hlen
              clear hlen
              go_upto_region 14 with fail
              refine go_name (fun w7 hw7 => ?_)
              have hb7 : Below w6.heap.size w6 w7 := by
                rw [hw7]
                repeat (first | exact Below.refl _ _ | refine Below.setCell ?_ (by simp only; omega) _ | refine Below.alloc ?_ (by simp) _)
              clear hw7 s6
              have Hb7 := Lib.hid (ky.then_bel Hb6.out hb7)
              have hk7 := (hb7.block _ (lt_of_block Hk6.out)).trans Hk6.out
              obtain ⟨_, _, _, _, v7, hv7, hB7⟩ := HS.out.later Hb7.out
              obtain ⟨q7, r7, rfl⟩ := hB7.form
              have s7 : w7.cell? ⟨b, 0, none⟩ = some (.slice q7 S.length r7) := cell_in hv7
              have hbw7 : b < w7.heap.size := lt_of_block hv7
              have m0 : w7.cell? ⟨w.heap.size, 0, none⟩ = some (.string nm) := cell_in hk7
              have m1 : w7.cell? ⟨w.heap.size, 1, none⟩ = some (.int .i64 x.kind) := cell_in hk7
              have m2 : w7.cell? ⟨w.heap.size, 2, none⟩ = some (.string df) := cell_in hk7
              have m3 : w7.cell? ⟨w.heap.size, 3, none⟩ = some (.int .i64 x.least) := cell_in hk7
              have m4 : w7.cell? ⟨w.heap.size, 4, none⟩ = some (.int .i64 x.most) := cell_in hk7
              have m5 : w7.cell? ⟨w.heap.size, 5, none⟩ = some (.string lt) := cell_in hk7
              have hgw7 : w.heap.size < w7.heap.size := lt_of_block hk7
              have HIns : Hid (∀ W, Below w7.heap.size w7 W → W.heap[w7.heap.size]? = some (.cells #[.string nm, .int .i64 x.kind, .string df, .int .i64 x.least, .int .i64 x.most, .string lt] 62 (0, 0)) →
                  Calls Tryz.prog 73 #[.slice q7 S.length r7, .int .i64 (k : Nat), .slice (some ⟨w7.heap.size, 0, none⟩) 1 1] W fun e w' => ∃ v', e = .returned v' ∧ ((∃ pp nn cc, v' = .slice pp nn cc) ∧ SetK M (w'.setCell ⟨b, 0, none⟩ v') b (insK S x) ∧ w'.heap[b]? = some (.cells #[.slice q7 S.length r7] 85 (0, 0)) ∧ Below M w w' ∧ Far 85 w (w'.setCell ⟨b, 0, none⟩ v') b)) := Lib.hid fun W hW hlit => by
                have hSW := HS.out.later (ky.then_bel Hb7.out hW)
                have hvW := (hW.block _ (lt_of_block hv7)).trans hv7
                have hBW := hB7.later hW
                have hMW : M ≤ W.heap.size := by have := hW.size; have := HMw.out; omega
                have hkl : k ≤ S.length := by have := HFnd.out.1; rwa [List.length_map] at this
                rw [Hnm.out, Hdf.out, Hlt.out] at hlit
                refine (insert_anyA M _ S k hkl x w7.heap.size HS.out.len W hMW hBW hlit (fun q hq => ?_)).mono ?_
                · rcases hB7.2 with ⟨h, _⟩ | ⟨g, c, cs, h, _, _, hb, _⟩
                  · rw [h] at hq; cases hq
                  · rw [h] at hq
                    obtain rfl := Option.some.inj hq
                    have := lt_of_block hb
                    show w7.heap.size ≠ g
                    omega
                · rintro e w' ⟨v', rfl, hB', hg', hat'⟩
                  obtain ⟨h1, h2⟩ := hSW.grown HX.out HFnd.out Hnone.out Hlen.out hvW hBW hB' hg'
                  obtain ⟨pp, cc, rfl⟩ := hB'.form
                  refine ⟨_, rfl, ⟨pp, _, cc, rfl⟩, h1, h2, ?_, Far.grown hbw (ky.then_bel Hb7.out hW) hvW hg' hat' h2⟩
                  have hbMW : Below M w W := (ky.then_bel Hb7.out hW).mono HMw.out
                  refine hbMW.trans ⟨hg'.os, hg'.tape, hg'.output, hg'.size, fun j hj => hg'.block j (by omega) fun hh => ?_⟩
                  rcases hBW.2 with ⟨h, _⟩ | ⟨g, c, cs, h, _, hMg, _, _⟩
                  · rw [h] at hh; cases hh
                  · rw [h] at hh
                    have e' : j = g := Option.some.inj hh
                    omega
              clear hb7 hk7 hv7 hB7
              go_region_law
                (first
                  | (refine step_callE (by rfl) 73 _ _ (by rfl) egIns _ (by rfl) _ (HIns.out _ (by first | exact ((Below.refl _ _).alloc (Nat.le_refl _) _).drew | exact (Below.refl _ _).alloc (Nat.le_refl _) _ | exact (Below.refl _ _).drew.alloc (Nat.le_refl _) _) (by exact heap_alloc_new w7 _)) ?_; rintro v' w8 ⟨⟨pp, nn, cc, rfl⟩, hs8, hb8, hbel8, hfar8⟩; have e8 : w8.cell? ⟨b, 0, none⟩ = some (.slice q7 S.length r7) := cell_in hb8; have f8 : w8.frozen? ⟨b, 0, none⟩ = false := free_in hb8; have l8 : b < w8.heap.size := lt_of_block hb8; have Hs8 := Lib.hid hs8; have Hbel8 := Lib.hid hbel8; have Hfar8 := Lib.hid hfar8; clear hs8 hbel8 hb8 hfar8)
                  | fail)
              all_goals
                go_wp2_with fail
                go_ret
                refine ⟨by rw [he.out]; rfl, ?_, ?_, Hfar8.out⟩
                · rw [add_yes he.out]; exact Hs8.out
                · exact Hbel8.out.setCell (p := ⟨b, 0, none⟩) HS.out.lo _
end Go.Proofs.YtpfhhaonfbfheaaGreatDoor.fl
/- The document's set of definitions, owned by its maker: New, Add. Conditions: definitions whose texts and numbers may be; the listed variables hold what the program's text lays. -/
namespace Go.Proofs.YtpfhhaonfbfheaaGreatDoor.fl
open Go.ChangeShapes Go.WideShapes Go.ChangeAt Go.RowKit gl va ls ky

def RefO (M : Nat) (w : World) (b : Nat) (L : List Ky) : Prop := ∃ p n c, n = L.length ∧ M ≤ b ∧ w.heap[b]? = some (.cells #[.slice p n c] 29 (0, 0)) ∧ w.ownsRow M 62 6 (.slice p n c) n (rw.flat kyC L)
theorem RefO.later {M : Nat} {w w' : World} {b : Nat} {L : List Ky} (h : RefO M w b L) (hb : Below w.heap.size w w') : RefO M w' b L := by
  obtain ⟨p, n, c, h0, h1, h2, h3⟩ := h
  exact ⟨p, n, c, h0, h1, (hb.block _ (lt_of_block h2)).trans h2, ls.own_kept h3 hb⟩
theorem RefO.ref {M : Nat} {w : World} {b : Nat} {L : List Ky} (h : RefO M w b L) : RefK w b L := by
  obtain ⟨p, n, c, rfl, h1, h2, h3⟩ := h
  exact ⟨p, c, h2, (rw.own_new kyC_len (by decide) h3).rw kyC_len⟩
theorem refNew_any (w : World) : Calls Tryz.prog 47 #[] w fun e w' => e = .returned (.pointer (some ⟨w.heap.size, 0, none⟩)) ∧ RefO w.heap.size w' w.heap.size [] ∧ Below w.heap.size w w' := by
  obtain ⟨wA, hA⟩ : ∃ wA, wA = w.alloc (.cells #[.slice none 0 0] 29) := ⟨_, rfl⟩
  have kA : wA.heap[w.heap.size]? = some (.cells #[.slice none 0 0] 29 (0, 0)) := by rw [hA]; exact heap_alloc_new w _
  have hbA : Below w.heap.size w wA := by rw [hA]; exact (Below.refl _ _).alloc (Nat.le_refl _) _
  have HF : Hid (RefO w.heap.size wA w.heap.size [] ∧ Below w.heap.size w wA) := Lib.hid ⟨⟨none, 0, 0, rfl, Nat.le_refl _, kA, World.ownsRow_nil _ _ _ _⟩, hbA⟩
  clear kA hbA
  go_enter Tryz.func47, Tryz.ntmps47
  go_wp2_with fail
  go_ret
  rw [← hA]
  exact ⟨rfl, HF.out.1, HF.out.2⟩
theorem refo_grown {M : Nat} {w0 w w5 : World} {b n g' cap' c : Nat} {p : Option Addr} {L : List Ky} {x : Ky} (hn : n = L.length) (hb : M ≤ b) (hM : M ≤ w0.heap.size) (h2 : w.heap[b]? = some (.cells #[.slice p n c] 29 (0, 0))) (h3 : w.ownsRow M 62 6 (.slice p n c) n (rw.flat kyC L)) (hB : Below M w0 w)
    (hB2 : Below w0.heap.size w0 w) (ho : w5.ownsRow M 62 6 (.slice (some ⟨g', 0, none⟩) (n + 1) cap') (n + 1) (rw.flat kyC L ++ kyC x)) (hg : w.grownBy w5 (Value.slice p n c).ownBlock) (hat : (Value.slice p n c).ownBlock = some g' ∨ w.heap.size ≤ g') (hb0 : b < w0.heap.size) :
    RefO M (w5.setCell ⟨b, 0, none⟩ (.slice (some ⟨g', 0, none⟩) (n + 1) cap')) b (L ++ [x]) ∧ Below M w0 (w5.setCell ⟨b, 0, none⟩ (.slice (some ⟨g', 0, none⟩) (n + 1) cap')) ∧ Far 29 w0 (w5.setCell ⟨b, 0, none⟩ (.slice (some ⟨g', 0, none⟩) (n + 1) cap')) b := by
  have k2 := (hg.block b (lt_of_block h2) (own_ne h3 h2 (by decide))).trans h2
  refine ⟨⟨_, _, _, by simp [hn], hb, heap_set k2 _, ?_⟩, (below_grown_own hB h3 hg (Nat.le_trans hM hB.size)).setCell (p := ⟨b, 0, none⟩) hb _, Far.grown hb0 hB2 h2 hg (fun q hq => by cases hq; exact hat) k2⟩
  rw [rw.flat_snoc]
  exact own_set ho k2 (by decide)
noncomputable def addO (L : List Ky) (x : Ky) : List Ky := if addE L x = 0 then L ++ [x] else L
theorem foundE (o : Option Ky) : foundV o = .tuple #[.agg #[.string (B (o.getD zK).name), .int .i64 (o.getD zK).kind, .string (B (o.getD zK).dflt), .int .i64 (o.getD zK).least, .int .i64 (o.getD zK).most, .string (B (o.getD zK).letter)], .bool o.isSome] := by cases o <;> rfl
theorem egForm (args : Array Value) (w : World) : (callFunc 74 args).run Tryz.prog w = .ok (.enter 74 args) w := enters Tryz.func74 (by kernel_rfl) (by kernel_rfl) args w
set_option maxHeartbeats 4000000 in
set_option maxRecDepth 100000 in
theorem refAdd_any (M b : Nat) (L : List Ky) (x : Ky) (w : World) (hR : RefO M w b L) (hx : KyOk x) (hM : M ≤ w.heap.size) (hV : Vlo w) (hlen : L.length ≤ 4096) :
    Calls Tryz.prog 49 #[.pointer (some ⟨b, 0, none⟩), kyV x] w fun e w' => e = .returned (.int .i64 (addE L x)) ∧ RefO M w' b (addO L x) ∧ Below M w w' ∧ Far 29 w w' b := by
  obtain ⟨i1, si, sz0, sz1, sz2⟩ := info_parts infoK
  obtain ⟨wA, hA⟩ : ∃ wA, wA = w.alloc (.cells #[.string (B x.name), .int .i64 x.kind, .string (B x.dflt), .int .i64 x.least, .int .i64 x.most, .string (B x.letter)] 62) := ⟨_, rfl⟩
  have kA : wA.heap[w.heap.size]? = some (.cells #[.string (B x.name), .int .i64 x.kind, .string (B x.dflt), .int .i64 x.least, .int .i64 x.most, .string (B x.letter)] 62 (0, 0)) := by rw [hA]; exact heap_alloc_new w _
  have hbA : Below w.heap.size w wA := by rw [hA]; exact (Below.refl _ _).alloc (Nat.le_refl _) _
  have HbA := Lib.hid hbA
  have HKx := Lib.hid fun W (hb : Below w.heap.size w W) => hV.below hb (Nat.le_refl _)
  have HRx := Lib.hid fun W (hb : Below w.heap.size w W) => hR.later hb
  have HkA := Lib.hid kA
  have HF := Lib.hid fun W => refForm_any x hx W
  have HD := Lib.hid fun W hv => refDflt_any x hx W hv
  have Hfi := Lib.hid fun W (h : RefK W b L) => refFind_any b L x.name W h (by omega)
  have Hle := Lib.hid fun W (h : RefK W b L) => refLetter_any b L x.letter W h (by omega)
  rw [foundE] at Hfi Hle
  have Hlen := Lib.hid hlen
  have He0 := Lib.hid (fun h => addE_form (S := L) (x := x) h)
  have He1 := Lib.hid (fun h h2 => addE_dflt (S := L) (x := x) h h2)
  have He2 := Lib.hid (fun h h2 => addE_rest (S := L) (x := x) h h2)
  obtain ⟨er, her⟩ : ∃ er, er = addE L x := ⟨_, rfl⟩
  obtain ⟨ol, hol⟩ : ∃ ol, ol = addO L x := ⟨_, rfl⟩
  have Hy := Lib.hid (show er = 0 → ol = L ++ [x] from fun h => by rw [hol, addO, if_pos (by rw [← her]; exact h)])
  have Hn := Lib.hid (show er ≠ 0 → ol = L from fun h => by rw [hol, addO, if_neg (by rw [← her]; exact h)])
  rw [← hol]
  rw [← her] at He0 He1 He2 ⊢
  have hbw : b < w.heap.size := by obtain ⟨_, _, _, _, _, h, _⟩ := hR; exact lt_of_block h
  clear her hol hR hx hV hbA kA
  unfold kyV at HF HD ⊢
  generalize hnb : B x.name = nb at *
  generalize hdb : B x.dflt = db at *
  generalize hlb : B x.letter = lb at *
  generalize hkk : x.kind = kk at *
  generalize hle : x.least = le at *
  generalize hmo : x.most = mo at *
  have Hkx : Hid ([.string nb, .int .i64 kk, .string db, .int .i64 le, .int .i64 mo, .string lb] = kyC x) := Lib.hid (by unfold kyC; rw [hnb, hdb, hlb, hkk, hle, hmo])
  clear hnb hdb hlb hkk hle hmo
  go_enter Tryz.func49, Tryz.ntmps49
  go_upto_region 1 with fail
  rw [← hA]
  clear hA
  have k_wA := HkA.out
  have c0 : wA.cell? ⟨w.heap.size, 0, none⟩ = some (.string nb) := cell_in k_wA
  have c1 : wA.cell? ⟨w.heap.size, 1, none⟩ = some (.int .i64 kk) := cell_in k_wA
  have c2 : wA.cell? ⟨w.heap.size, 2, none⟩ = some (.string db) := cell_in k_wA
  have c3 : wA.cell? ⟨w.heap.size, 3, none⟩ = some (.int .i64 le) := cell_in k_wA
  have c4 : wA.cell? ⟨w.heap.size, 4, none⟩ = some (.int .i64 mo) := cell_in k_wA
  have c5 : wA.cell? ⟨w.heap.size, 5, none⟩ = some (.string lb) := cell_in k_wA
  have cl := lt_of_block k_wA
  clear k_wA
  go_wp2_with fail
  refine (HF.out wA).mono ?_
  rintro e w1 ⟨rfl, hb1⟩
  have Hb1 := Lib.hid (ky.then_bel HbA.out hb1)
  have Hk1 := Lib.hid ((hb1.block _ cl).trans HkA.out)
  clear c0 c1 c2 c3 c4 c5 cl
  clear hb1 HF
  cases hfo : formL x with
  | false =>
    have He := Lib.hid (He0.out hfo)
    have HR := Lib.hid (HRx.out _ Hb1.out)
    clear hfo
    go_wp2_with fail
    go_ret
    refine ⟨by rw [He.out]; rfl, ?_, Hb1.out.mono hM, Far.below hbw Hb1.out⟩
    rw [Hn.out (by rw [He.out]; decide)]
    exact HR.out
  | true =>
    have Hfo := Lib.hid hfo
    clear hfo
    have k_w1 := Hk1.out
    have c0 : w1.cell? ⟨w.heap.size, 0, none⟩ = some (.string nb) := cell_in k_w1
    have c1 : w1.cell? ⟨w.heap.size, 1, none⟩ = some (.int .i64 kk) := cell_in k_w1
    have c2 : w1.cell? ⟨w.heap.size, 2, none⟩ = some (.string db) := cell_in k_w1
    have c3 : w1.cell? ⟨w.heap.size, 3, none⟩ = some (.int .i64 le) := cell_in k_w1
    have c4 : w1.cell? ⟨w.heap.size, 4, none⟩ = some (.int .i64 mo) := cell_in k_w1
    have c5 : w1.cell? ⟨w.heap.size, 5, none⟩ = some (.string lb) := cell_in k_w1
    have cl := lt_of_block k_w1
    clear k_w1
    go_wp2_with fail
    refine (HD.out w1 (HKx.out _ Hb1.out)).mono ?_
    rintro e w2 ⟨rfl, hb2⟩
    have Hb2 := Lib.hid (ky.then_bel Hb1.out hb2)
    have Hk2 := Lib.hid ((hb2.block _ cl).trans Hk1.out)
    clear c0 c1 c2 c3 c4 c5 cl
    clear hb2 HD
    cases hdo : dfltL x with
    | false =>
      have He := Lib.hid (He1.out Hfo.out hdo)
      have HR := Lib.hid (HRx.out _ Hb2.out)
      clear hdo
      go_wp2_with fail
      go_ret
      refine ⟨by rw [He.out]; rfl, ?_, Hb2.out.mono hM, Far.below hbw Hb2.out⟩
      rw [Hn.out (by rw [He.out]; decide)]
      exact HR.out
    | true =>
      have He := Lib.hid (He2.out Hfo.out hdo)
      clear hdo He0 He1 He2
      have k_w2 := Hk2.out
      have c0 : w2.cell? ⟨w.heap.size, 0, none⟩ = some (.string nb) := cell_in k_w2
      have c1 : w2.cell? ⟨w.heap.size, 1, none⟩ = some (.int .i64 kk) := cell_in k_w2
      have c2 : w2.cell? ⟨w.heap.size, 2, none⟩ = some (.string db) := cell_in k_w2
      have c3 : w2.cell? ⟨w.heap.size, 3, none⟩ = some (.int .i64 le) := cell_in k_w2
      have c4 : w2.cell? ⟨w.heap.size, 4, none⟩ = some (.int .i64 mo) := cell_in k_w2
      have c5 : w2.cell? ⟨w.heap.size, 5, none⟩ = some (.string lb) := cell_in k_w2
      have cl := lt_of_block k_w2
      clear k_w2
      have HFi := Lib.hid (Hfi.out w2 (HRx.out _ Hb2.out).ref)
      clear Hfi
      generalize hfo : findK L x.name = fo at *
      clear hfo
      generalize B (fo.getD zK).name = f0 at *
      generalize B (fo.getD zK).dflt = f2 at *
      generalize B (fo.getD zK).letter = f5 at *
      generalize (fo.getD zK).kind = f1 at *
      generalize (fo.getD zK).least = f3 at *
      generalize (fo.getD zK).most = f4 at *
      go_wp2_with fail
      refine HFi.out.mono ?_
      rintro e w3 ⟨rfl, hb3⟩
      have Hb3 := Lib.hid (ky.then_bel Hb2.out hb3)
      have Hk3 := Lib.hid ((hb3.block _ cl).trans Hk2.out)
      clear c0 c1 c2 c3 c4 c5 cl
      clear hb3
      go_upto_region 8 with fail
      refine go_name (fun wB hB => ?_)
      have hbB : Below w3.heap.size w3 wB := by rw [hB]; exact (Below.refl _ _).alloc (Nat.le_refl _) _
      have HbB := Lib.hid (ky.then_bel Hb3.out hbB)
      have HkB := Lib.hid ((hbB.block _ (lt_of_block Hk3.out)).trans Hk3.out)
      clear hB hbB
      have k_wB := HkB.out
      have c0 : wB.cell? ⟨w.heap.size, 0, none⟩ = some (.string nb) := cell_in k_wB
      have c1 : wB.cell? ⟨w.heap.size, 1, none⟩ = some (.int .i64 kk) := cell_in k_wB
      have c2 : wB.cell? ⟨w.heap.size, 2, none⟩ = some (.string db) := cell_in k_wB
      have c3 : wB.cell? ⟨w.heap.size, 3, none⟩ = some (.int .i64 le) := cell_in k_wB
      have c4 : wB.cell? ⟨w.heap.size, 4, none⟩ = some (.int .i64 mo) := cell_in k_wB
      have c5 : wB.cell? ⟨w.heap.size, 5, none⟩ = some (.string lb) := cell_in k_wB
      have cl := lt_of_block k_wB
      clear k_wB
      have HLi := Lib.hid (Hle.out wB (HRx.out _ HbB.out).ref)
      clear Hle
      generalize hlo : lettK L x.letter = lo at *
      clear hlo
      generalize B (lo.getD zK).name = h0 at *
      generalize B (lo.getD zK).dflt = h2 at *
      generalize B (lo.getD zK).letter = h5 at *
      generalize (lo.getD zK).kind = h1 at *
      generalize (lo.getD zK).least = h3 at *
      generalize (lo.getD zK).most = h4 at *
      go_wp2_with fail
      refine HLi.out.mono ?_
      rintro e w4 ⟨rfl, hb4⟩
      have Hb4 := Lib.hid (ky.then_bel HbB.out hb4)
      have Hk4 := Lib.hid ((hb4.block _ cl).trans HkB.out)
      clear c0 c1 c2 c3 c4 c5 cl
      clear hb4
      go_upto_region 9 with fail
      refine go_name (fun wC hC => ?_)
      have hbC : Below w4.heap.size w4 wC := by rw [hC]; exact (Below.refl _ _).alloc (Nat.le_refl _) _
      have HbC := Lib.hid (ky.then_bel Hb4.out hbC)
      have HkC := Lib.hid ((hbC.block _ (lt_of_block Hk4.out)).trans Hk4.out)
      have HRC := Lib.hid (HRx.out _ HbC.out)
      clear hC hbC HRx HKx
      cases fo with
      | some y =>
        have He3 : Hid (er = 51) := Lib.hid (by rw [He.out]; rfl)
        clear He
        go_wp2_with fail
        go_ret
        refine ⟨by rw [He3.out]; rfl, ?_, HbC.out.mono hM, Far.below hbw HbC.out⟩
        rw [Hn.out (by rw [He3.out]; decide)]
        exact HRC.out
      | none =>
        cases lo with
        | some y =>
          have He3 : Hid (er = 52) := Lib.hid (by rw [He.out]; rfl)
          clear He
          go_wp2_with fail
          go_ret
          refine ⟨by rw [He3.out]; rfl, ?_, HbC.out.mono hM, Far.below hbw HbC.out⟩
          rw [Hn.out (by rw [He3.out]; decide)]
          exact HRC.out
        | none =>
          have He3 : Hid (er = if L.length = 64 then 54 else 0) := Lib.hid (by rw [He.out]; rfl)
          clear He
          obtain ⟨pL, nL, cL, hnL, hMb, kL, ownL⟩ := HRC.out
          have HnL := Lib.hid hnL
          have r0 : wC.cell? ⟨b, 0, none⟩ = some (.slice pL nL cL) := cell_in kL
          have rl := lt_of_block kL
          have HkL := Lib.hid kL
          have HoL := Lib.hid ownL
          have hnb : nL ≤ 4096 := by rw [hnL]; exact Hlen.out
          have hzC : M ≤ wC.heap.size := Nat.le_trans hM HbC.out.size
          clear kL ownL hnL
          by_cases h64 : nL = 64
          · have q1 : ((nL : Int) == 64) = true := by rw [h64]; rfl
            have He4 : Hid (er = 54) := Lib.hid (by rw [He3.out, if_pos (by rw [← HnL.out]; exact h64)])
            clear h64
            go_wp2_with fail
            go_ret
            refine ⟨by rw [He4.out]; rfl, ?_, HbC.out.mono hM, Far.below hbw HbC.out⟩
            rw [Hn.out (by rw [He4.out]; decide)]
            exact HRC.out
          · have q1 : ((nL : Int) == 64) = false := by simp only [beq_eq_false_iff_ne]; omega
            have He4 : Hid (er = 0) := Lib.hid (by rw [He3.out, if_neg (by rw [← HnL.out]; exact h64)])
            clear h64
            have k_wC := HkC.out
            have c0 : wC.cell? ⟨w.heap.size, 0, none⟩ = some (.string nb) := cell_in k_wC
            have c1 : wC.cell? ⟨w.heap.size, 1, none⟩ = some (.int .i64 kk) := cell_in k_wC
            have c2 : wC.cell? ⟨w.heap.size, 2, none⟩ = some (.string db) := cell_in k_wC
            have c3 : wC.cell? ⟨w.heap.size, 3, none⟩ = some (.int .i64 le) := cell_in k_wC
            have c4 : wC.cell? ⟨w.heap.size, 4, none⟩ = some (.int .i64 mo) := cell_in k_wC
            have c5 : wC.cell? ⟨w.heap.size, 5, none⟩ = some (.string lb) := cell_in k_wC
            have cl := lt_of_block k_wC
            clear k_wC
            have HGr := Lib.hid fun (w5 : World) g' cap' => fun ho hg hat => refo_grown (w0 := w) (w5 := w5) (g' := g') (cap' := cap') (x := x) HnL.out hMb hM HkL.out HoL.out (HbC.out.mono hM) HbC.out ho hg hat hbw
            rw [← Hkx.out] at HGr
            have Hne := Lib.hid (own_ne HoL.out HkL.out (by decide))
            obtain ⟨ws, hws⟩ : ∃ ws, ws = wC := ⟨_, rfl⟩
            go_upto_region 15 with fail
            go_region_law (first
              | (refine step_append_k (by rfl) _ _ 27 (by rfl) 62 i1 _ 6 72 Tryz.underlying27 si sz0 sz1 sz2 rfl (by omega) _ (by rfl) (by rfl) M _ nL _ (by rfl) HoL.out (by simp [Value.oneCell']) (by omega) (by omega) hzC ?_; intro g8 c8 w8 hown8 hgrow8 hat8 _ _; have HGo := Lib.hid (HGr.out w8 g8 c8 hown8 hgrow8 hat8); have k3 := (hgrow8.block _ (lt_of_block HkL.out) Hne.out).trans HkL.out; have q3 : w8.cell? ⟨b, 0, none⟩ = some (.slice pL nL cL) := cell_in k3; have q4 : w8.frozen? ⟨b, 0, none⟩ = false := free_in k3; have q5 := lt_of_block k3; clear hown8 hgrow8 hat8 k3)
              | (refine step_append_k0 (by rfl) _ _ 27 (by rfl) 62 i1 _ 6 72 Tryz.underlying27 si sz0 sz1 sz2 rfl (by omega) _ (by rfl) (by rfl) M _ nL _ (by rfl) HoL.out (by simp [Value.oneCell']) (by omega) (by omega) hzC ?_; intro g8 c8 w8 hown8 hgrow8 hat8 _ _; have HGo := Lib.hid (HGr.out w8 g8 c8 hown8 hgrow8 hat8); have k3 := (hgrow8.block _ (lt_of_block HkL.out) Hne.out).trans HkL.out; have q3 : w8.cell? ⟨b, 0, none⟩ = some (.slice pL nL cL) := cell_in k3; have q4 : w8.frozen? ⟨b, 0, none⟩ = false := free_in k3; have q5 := lt_of_block k3; clear hown8 hgrow8 hat8 k3)
              | fail)
            all_goals
              go_wp2_with fail
              go_ret
              refine ⟨by rw [He4.out]; rfl, ?_, HGo.out.2⟩
              rw [Hy.out He4.out]
              exact HGo.out.1
end Go.Proofs.YtpfhhaonfbfheaaGreatDoor.fl
/- Package flag: wants, letters at one letter, word at one word, kind at five texts. Conditions: as stated. -/
namespace Go.Proofs.YtpfhhaonfbfheaaGreatDoor.fl
open Go.ChangeShapes Go.WideShapes Go.ChangeAt Go.RowKit gl va ls ky en

set_option maxHeartbeats 2000000 in
set_option maxRecDepth 100000 in
theorem wants_more {w0 w : World} {b ba bx br bz bs os n c k : Nat} {G : List Gv} {R : List (List UInt8)} {h : Bool} (H : RS w0 w b ba bx br bz bs os n c k G R h) (args : List (List UInt8)) (hA : Sts w0 (.slice (some ⟨bs, os, none⟩) n c) args) (x : List UInt8) (hx : args[k]? = some x) (hk : k < n) (hn : n ≤ 100) (hG : G.length ≤ 1000) (name : List UInt8) (T : ByteArray) (pos : Nat) :
    Calls Tryz.prog 88 #[.pointer (some ⟨br, 0, none⟩), .string (B name), .string T, .bool false, .int .i64 pos] w fun e w' => e = .returned (.int .i64 0) ∧ RS w0 w' b ba bx br bz bs os n c (k + 1) (G ++ [⟨name, x, pos⟩]) R h := by
  have HN := Lib.hid (next_more H args hA x hx hk hn)
  have HGi := Lib.hid (gives_any H.next hG name x pos)
  obtain ⟨pg, cg, pr, cr, h3, _, _⟩ := H.rec_
  have g4 : w.cell? ⟨br, 4, none⟩ = some (nextF ba bx) := cell_in h3
  have hlr := lt_of_block h3
  have eg := egNext
  clear H hA hx h3
  generalize B x = xb at *
  generalize B name = nb at *
  go_enter Tryz.func88, Tryz.ntmps88
  focus
    go_wp2_with (go_at_fn 66; go_must (refine HN.out.mono ?_))
  rintro e w1 ⟨rfl, rfl⟩
  clear g4
  go_wp2_with fail
  refine HGi.out.mono ?_
  rintro e w2 ⟨rfl, hR⟩
  have HR := Lib.hid hR
  clear hR
  go_wp2_with fail
  go_ret
  exact ⟨rfl, HR.out⟩
set_option maxRecDepth 100000 in
theorem wants_none {w0 w : World} {b ba bx br bz bs os n c k : Nat} {G : List Gv} {R : List (List UInt8)} {h : Bool} (H : RS w0 w b ba bx br bz bs os n c k G R h) (hk : n ≤ k) (hk2 : k ≤ 1000) (N : ByteArray) (T : ByteArray) (pos : Nat) :
    Calls Tryz.prog 88 #[.pointer (some ⟨br, 0, none⟩), .string N, .string T, .bool false, .int .i64 pos] w fun e w' => e = .returned (.int .i64 72) ∧ Below w.heap.size w w' := by
  have HN := Lib.hid (next_none H hk hk2)
  obtain ⟨pg, cg, pr, cr, h3, _, _⟩ := H.rec_
  have g4 : w.cell? ⟨br, 4, none⟩ = some (nextF ba bx) := cell_in h3
  have hlr := lt_of_block h3
  have eg := egNext
  clear H h3
  go_enter Tryz.func88, Tryz.ntmps88
  focus
    go_wp2_with (go_at_fn 66; go_must (refine HN.out.mono ?_))
  rintro e w1 ⟨rfl, rfl⟩
  go_wp2_with fail
  go_ret
  exact ⟨rfl, Below.refl _ _⟩

/-! ### What an argument is -/
theorem hasP_any (s p : ByteArray) (z : Bool) (h : Lib.hasPrefix s.data.toList p.data.toList = z) (W : World) : Calls Tryz.prog 57 #[.string s, .string p] W fun e w' => e = .returned (.bool z) ∧ w' = W := by
  have := Tryz.strings_HasPrefix s p W
  rwa [h] at this
set_option maxRecDepth 100000 in
theorem kind_p (w : World) : Calls Tryz.prog 67 #[.string ⟨#[45, 112]⟩] w fun e w' => e = .returned (.int .i64 4) ∧ w' = w := by
  have H0 := Lib.hid fun W => hasP_any ⟨#[45, 112]⟩ ⟨#[45]⟩ true (by decide) W
  have H1 := Lib.hid fun W => hasP_any ⟨#[45, 112]⟩ ⟨#[45, 45]⟩ false (by decide) W
  go_enter Tryz.func67, Tryz.ntmps67
  go_wp2_with fail
  refine (H0.out _).mono ?_
  rintro e w1 ⟨rfl, rfl⟩
  go_wp2_with fail
  refine (H1.out _).mono ?_
  rintro e w2 ⟨rfl, rfl⟩
  go_wp2_with fail
  go_ret
  exact ⟨rfl, rfl⟩
set_option maxRecDepth 100000 in
theorem kind_x (w : World) : Calls Tryz.prog 67 #[.string ⟨#[120]⟩] w fun e w' => e = .returned (.int .i64 1) ∧ w' = w := by
  have H0 := Lib.hid fun W => hasP_any ⟨#[120]⟩ ⟨#[45]⟩ false (by decide) W
  go_enter Tryz.func67, Tryz.ntmps67
  go_wp2_with fail
  refine (H0.out _).mono ?_
  rintro e w1 ⟨rfl, rfl⟩
  go_wp2_with fail
  go_ret
  exact ⟨rfl, rfl⟩
set_option maxRecDepth 100000 in
theorem kind_dry (w : World) : Calls Tryz.prog 67 #[.string ⟨#[45, 45, 98, 111, 111, 116, 46, 100, 114, 121]⟩] w fun e w' => e = .returned (.int .i64 3) ∧ w' = w := by
  have H0 := Lib.hid fun W => hasP_any ⟨#[45, 45, 98, 111, 111, 116, 46, 100, 114, 121]⟩ ⟨#[45]⟩ true (by decide) W
  have H1 := Lib.hid fun W => hasP_any ⟨#[45, 45, 98, 111, 111, 116, 46, 100, 114, 121]⟩ ⟨#[45, 45]⟩ true (by decide) W
  go_enter Tryz.func67, Tryz.ntmps67
  go_wp2_with fail
  refine (H0.out _).mono ?_
  rintro e w1 ⟨rfl, rfl⟩
  go_wp2_with fail
  refine (H1.out _).mono ?_
  rintro e w2 ⟨rfl, rfl⟩
  go_wp2_with fail
  go_ret
  exact ⟨rfl, rfl⟩
set_option maxRecDepth 100000 in
theorem kind_h (w : World) : Calls Tryz.prog 67 #[.string ⟨#[45, 104]⟩] w fun e w' => e = .returned (.int .i64 2) ∧ w' = w := by
  have H0 := Lib.hid fun W => hasP_any ⟨#[45, 104]⟩ ⟨#[45]⟩ true (by decide) W
  go_enter Tryz.func67, Tryz.ntmps67
  go_wp2_with fail
  refine (H0.out _).mono ?_
  rintro e w1 ⟨rfl, rfl⟩
  go_wp2_with fail
  go_ret
  exact ⟨rfl, rfl⟩
set_option maxRecDepth 100000 in
theorem kind_e (w : World) : Calls Tryz.prog 67 #[.string ⟨#[45, 45]⟩] w fun e w' => e = .returned (.int .i64 0) ∧ w' = w := by
  go_enter Tryz.func67, Tryz.ntmps67
  go_wp2_with fail
  go_ret
  exact ⟨rfl, rfl⟩
/-! ### One letter, one word -/
def portK : Ky := ⟨[110, 101, 116, 46, 112, 111, 114, 116], 2, [56, 48, 56, 48], 1, 65535, [112]⟩
def dryK : Ky := ⟨[98, 111, 111, 116, 46, 100, 114, 121], 1, [102, 97, 108, 115, 101], 0, 0, [110]⟩
theorem lett_p : lettK stdK [112] = some portK := by decide +kernel
theorem find_dry : findK stdK [98, 111, 111, 116, 46, 100, 114, 121] = some dryK := by decide +kernel
theorem letter_p (M b : Nat) (w : World) (hS : SetK M w b stdK) : Calls Tryz.prog 42 #[.pointer (some ⟨b, 0, none⟩), .string ⟨#[112]⟩] w fun e w' => e = .returned (.tuple #[.agg #[.string (B portK.name), .int .i64 2, .string (B portK.dflt), .int .i64 1, .int .i64 65535, .string (B portK.letter)], .bool true]) ∧ Below w.heap.size w w' := by
  have h := Letter_any M b stdK [112] w hS
  rw [lett_p] at h
  exact h
theorem find_d (M b : Nat) (w : World) (hS : SetK M w b stdK) (X : ByteArray) (hX : X = B dryK.name) : Calls Tryz.prog 40 #[.pointer (some ⟨b, 0, none⟩), .string X] w fun e w' => e = .returned (.tuple #[.agg #[.string (B dryK.name), .int .i64 1, .string (B dryK.dflt), .int .i64 0, .int .i64 0, .string (B dryK.letter)], .bool true]) ∧ Below w.heap.size w w' := by
  have h := Find_any M b stdK [98, 111, 111, 116, 46, 100, 114, 121] w hS
  rw [find_dry] at h
  subst hX
  exact h
theorem egLett (args : Array Value) (w : World) : (callFunc 42 args).run Tryz.prog w = .ok (.enter 42 args) w := enters Tryz.func42 (by kernel_rfl) (by kernel_rfl) args w
theorem egWants (args : Array Value) (w : World) : (callFunc 88 args).run Tryz.prog w = .ok (.enter 88 args) w := enters Tryz.func88 (by kernel_rfl) (by kernel_rfl) args w
set_option maxHeartbeats 2000000 in
set_option maxRecDepth 100000 in
/-- The word boot.dry: the setting is given as true. -/
theorem word_dry {w0 w : World} {b ba bx br bz bs os n c k : Nat} {G : List Gv} {R : List (List UInt8)} {h : Bool} (H : RS w0 w b ba bx br bz bs os n c k G R h) (hG : G.length ≤ 1000) (M : Nat) (hS : SetK M w0 b stdK) (hGl : Glo w0) (pos : Nat) :
    Calls Tryz.prog 68 #[.pointer (some ⟨br, 0, none⟩), .string ⟨#[45, 45, 98, 111, 111, 116, 46, 100, 114, 121]⟩, .int .i64 pos] w fun e w' => e = .returned (.int .i64 0) ∧ RS w0 w' b ba bx br bz bs os n c k (G ++ [⟨dryK.name, [116, 114, 117, 101], pos⟩]) R h := by
  obtain ⟨pg, cg, pr, cr, h3, _, _⟩ := H.rec_
  have g0 : w.cell? ⟨br, 0, none⟩ = some (.pointer (some ⟨b, 0, none⟩)) := cell_in h3
  have hlr := lt_of_block h3
  obtain ⟨X, hX⟩ : ∃ X, X = B dryK.name := ⟨_, rfl⟩
  have HF := Lib.hid fun W (hW : Below w.heap.size w W) => find_d M b W (hS.later (then_bel H.bel H.bel.size hW)) X hX
  have HGi : Hid (∀ W, Below w.heap.size w W → Calls Tryz.prog 87 #[.pointer (some ⟨br, 0, none⟩), .string X, .string ⟨#[116, 114, 117, 101]⟩, .int .i64 pos] W fun e w' => e = .returned (.int .i64 0) ∧ RS w0 w' b ba bx br bz bs os n c k (G ++ [⟨dryK.name, [116, 114, 117, 101], pos⟩]) R h) := Lib.hid fun W hW => by
    rw [hX]
    exact gives_any (H.later hW) hG dryK.name [116, 114, 117, 101] pos
  have HCt : Hid (∀ W, Below w.heap.size w W → Calls Tryz.prog 54 #[.string X, .string ⟨#[61]⟩] W fun e w' => e = .returned (.tuple #[.string X, .string ⟨#[]⟩, .bool false]) ∧ Below W.heap.size W w') := Lib.hid fun W hW => by
    obtain ⟨mx, hmx⟩ := (hGl.below (then_bel H.bel H.bel.size hW) (Nat.le_refl _)).maxLen
    refine (Tryz.strings_Cut X ⟨#[61]⟩ mx W (by rw [hX]; decide) hmx).mono ?_
    rintro e w' ⟨rfl, q, rfl⟩
    refine ⟨?_, drewN_bel W q⟩
    rw [hX]
    rfl
  have hx1 : (⟨#[45, 45, 98, 111, 111, 116, 46, 100, 114, 121]⟩ : ByteArray).extract 2 10 = X := by rw [hX]; decide
  have q1 : (X.toList == []) = false := by rw [hX, ByteArray.toList_eq]; decide
  have q2 : X.toList.isEmpty = false := by rw [hX, ByteArray.toList_eq]; decide
  clear H h3 hS hGl hX
  generalize B dryK.name = nb at *
  generalize B dryK.dflt = db at *
  generalize B dryK.letter = lb at *
  go_enter Tryz.func68, Tryz.ntmps68
  go_wp2_with fail
  refine (HCt.out _ (Below.refl _ _)).mono ?_
  rintro e w1 ⟨rfl, hb1⟩
  have Hb1 := Lib.hid hb1
  have g1 : w1.cell? ⟨br, 0, none⟩ = some (.pointer (some ⟨b, 0, none⟩)) := (hb1.cell (p := ⟨br, 0, none⟩) hlr).trans g0
  have hlr1 : br < w1.heap.size := Nat.lt_of_lt_of_le hlr hb1.size
  clear hb1 g0
  go_wp2_with fail
  refine (HF.out _ Hb1.out).mono ?_
  rintro e w2 ⟨rfl, hb2⟩
  have Hb2 := Lib.hid (then_bel Hb1.out Hb1.out.size hb2)
  clear hb2 g1
  go_upto_region 5 with fail
  refine go_name2 (fun wA hA => ?_)
  have kA : wA.heap[w2.heap.size]? = some (.cells #[.string nb, .int .i64 1, .string db, .int .i64 0, .int .i64 0, .string lb] 62 (0, 0)) := by rw [hA]; exact heap_alloc_new w2 _
  have hbA : Below w2.heap.size w2 wA := by rw [hA]; exact (Below.refl _ _).alloc (Nat.le_refl _) _
  have HbA := Lib.hid (then_bel Hb2.out Hb2.out.size hbA)
  have d1 : wA.cell? ⟨w2.heap.size, 1, none⟩ = some (.int .i64 1) := cell_in kA
  have hlA := lt_of_block kA
  clear hA kA hbA q1 q2
  go_wp2_with fail
  refine (HGi.out _ HbA.out).mono ?_
  rintro e w3 ⟨rfl, hR⟩
  have HR := Lib.hid hR
  clear hR
  go_wp2_with fail
  go_ret
  exact ⟨rfl, HR.out⟩
end Go.Proofs.YtpfhhaonfbfheaaGreatDoor.fl
/- Package flag: letters at one letter. Conditions: as stated. -/
namespace Go.Proofs.YtpfhhaonfbfheaaGreatDoor.fl
open Go.ChangeShapes Go.WideShapes Go.ChangeAt Go.RowKit gl va ls ky en

set_option maxHeartbeats 2000000 in
set_option maxRecDepth 100000 in
/-- -p: the setting net.port is given with the next argument; or there is none. -/
theorem letters_p {w0 w : World} {b ba bx br bz bs os n c k : Nat} {G : List Gv} {R : List (List UInt8)} {h : Bool} (H : RS w0 w b ba bx br bz bs os n c k G R h) (M : Nat) (hS : SetK M w0 b stdK) (pos : Nat) (er : Int) (Q : World → Prop)
    (hW : ∀ W, RS w0 W b ba bx br bz bs os n c k G R h → ∀ T : ByteArray, Calls Tryz.prog 88 #[.pointer (some ⟨br, 0, none⟩), .string (B portK.name), .string T, .bool false, .int .i64 pos] W fun e w' => e = .returned (.int .i64 er) ∧ Q w') :
    Calls Tryz.prog 69 #[.pointer (some ⟨br, 0, none⟩), .string ⟨#[45, 112]⟩, .int .i64 pos] w fun e w' => e = .returned (.int .i64 er) ∧ Q w' := by
  obtain ⟨pg, cg, pr, cr, h3, _, _⟩ := H.rec_
  have g0 : w.cell? ⟨br, 0, none⟩ = some (.pointer (some ⟨b, 0, none⟩)) := cell_in h3
  have hlr := lt_of_block h3
  have HL := Lib.hid fun W (hW : Below w.heap.size w W) => letter_p M b W (hS.later (then_bel H.bel H.bel.size hW))
  have HWa := Lib.hid fun W (hb : Below w.heap.size w W) (T : ByteArray) => hW W (H.later hb) T
  have hx1 : (⟨#[45, 112]⟩ : ByteArray).extract 1 2 = ⟨#[112]⟩ := by decide
  have hw2 : IntKind.i64.wrap 2 = 2 := by decide
  clear H h3 hS hW
  generalize B portK.name = nb at *
  generalize B portK.dflt = db at *
  generalize B portK.letter = lb at *
  go_enter Tryz.func69, Tryz.ntmps69
  go_wp2_with fail
  go_loopw [7] (fun vi wr => vi = .int .i64 1 ∧ wr = w) (fun _ _ => 0)
  case atStart => exact ⟨rfl, rfl⟩
  case round =>
    obtain ⟨rfl, rfl⟩ := hrel
    go_upto_region 8 with fail
    go_cut [8, 9] (fun v is wx => ∃ blk : Nat, v = .pointer (some ⟨blk, 0, none⟩) ∧ is = .bool true ∧ Hid (wx.heap[blk]? = some (.cells #[.string nb, .int .i64 2, .string db, .int .i64 1, .int .i64 65535, .string lb] 62 (0, 0))) ∧ Hid (Below wr.heap.size wr wx))
    case first =>
      go_region_law (first
        | (refine step_call (by rfl) 42 _ _ (by rfl) egLett _ (by rfl) _ _ (HL.out _ (Below.refl _ _).drew) ?_; intro w7 hb7; have HB7 := Lib.hid ((Below.refl wr.heap.size wr).drew.trans hb7); clear hb7)
        | (refine step_call (by rfl) 42 _ _ (by rfl) egLett _ (by rfl) _ _ (HL.out _ ((Below.refl wr.heap.size wr).alloc (Nat.le_refl _) _).drew) ?_; intro w7 hb7; have hk7 := (hb7.block wr.heap.size (by simp)).trans (heap_alloc_new wr (.cells #[.string ⟨#[]⟩, .int .i64 0, .string ⟨#[]⟩, .int .i64 0, .int .i64 0, .string ⟨#[]⟩] 62)); have HKa := Lib.hid hk7; have HBa := Lib.hid ((((Below.refl wr.heap.size wr).alloc (Nat.le_refl _) _).drew).trans (hb7.mono (by simp))); have e0 : w7.cell? ⟨wr.heap.size, 0, none⟩ = some (.string ⟨#[]⟩) := cell_in hk7; have e1 : w7.cell? ⟨wr.heap.size, 1, none⟩ = some (.int .i64 0) := cell_in hk7; have e2 : w7.cell? ⟨wr.heap.size, 2, none⟩ = some (.string ⟨#[]⟩) := cell_in hk7; have e3 : w7.cell? ⟨wr.heap.size, 3, none⟩ = some (.int .i64 0) := cell_in hk7; have e4 : w7.cell? ⟨wr.heap.size, 4, none⟩ = some (.int .i64 0) := cell_in hk7; have e5 : w7.cell? ⟨wr.heap.size, 5, none⟩ = some (.string ⟨#[]⟩) := cell_in hk7; have u0 : w7.frozen? ⟨wr.heap.size, 0, none⟩ = false := free_in hk7; have u1 : w7.frozen? ⟨wr.heap.size, 1, none⟩ = false := free_in hk7; have u2 : w7.frozen? ⟨wr.heap.size, 2, none⟩ = false := free_in hk7; have u3 : w7.frozen? ⟨wr.heap.size, 3, none⟩ = false := free_in hk7; have u4 : w7.frozen? ⟨wr.heap.size, 4, none⟩ = false := free_in hk7; have u5 : w7.frozen? ⟨wr.heap.size, 5, none⟩ = false := free_in hk7; have ul := lt_of_block hk7; clear hb7 hk7)
        | fail)
      all_goals first
        | (clear e0 e1 e2 e3 e4 e5 u0 u1 u2 u3 u4 u5 ul
           have K0 := Lib.hid (show ((((((w7.setCell ⟨wr.heap.size, 0, none⟩ (.string nb)).setCell ⟨wr.heap.size, 1, none⟩ (.int .i64 2)).setCell ⟨wr.heap.size, 2, none⟩ (.string db)).setCell ⟨wr.heap.size, 3, none⟩ (.int .i64 1)).setCell ⟨wr.heap.size, 4, none⟩ (.int .i64 65535)).setCell ⟨wr.heap.size, 5, none⟩ (.string lb)).heap[wr.heap.size]? = some (.cells #[.string nb, .int .i64 2, .string db, .int .i64 1, .int .i64 65535, .string lb] 62 (0, 0)) from (heap_set (heap_set (heap_set (heap_set (heap_set (heap_set HKa.out (.string nb)) (.int .i64 2)) (.string db)) (.int .i64 1)) (.int .i64 65535)) (.string lb)))
           have B0 := Lib.hid (show Below wr.heap.size wr ((((((w7.setCell ⟨wr.heap.size, 0, none⟩ (.string nb)).setCell ⟨wr.heap.size, 1, none⟩ (.int .i64 2)).setCell ⟨wr.heap.size, 2, none⟩ (.string db)).setCell ⟨wr.heap.size, 3, none⟩ (.int .i64 1)).setCell ⟨wr.heap.size, 4, none⟩ (.int .i64 65535)).setCell ⟨wr.heap.size, 5, none⟩ (.string lb)) from ((((((HBa.out.setCell (p := ⟨wr.heap.size, 0, none⟩) (Nat.le_refl _) (.string nb)).setCell (p := ⟨wr.heap.size, 1, none⟩) (Nat.le_refl _) (.int .i64 2)).setCell (p := ⟨wr.heap.size, 2, none⟩) (Nat.le_refl _) (.string db)).setCell (p := ⟨wr.heap.size, 3, none⟩) (Nat.le_refl _) (.int .i64 1)).setCell (p := ⟨wr.heap.size, 4, none⟩) (Nat.le_refl _) (.int .i64 65535)).setCell (p := ⟨wr.heap.size, 5, none⟩) (Nat.le_refl _) (.string lb)))
           generalize ((((((w7.setCell ⟨wr.heap.size, 0, none⟩ (.string nb)).setCell ⟨wr.heap.size, 1, none⟩ (.int .i64 2)).setCell ⟨wr.heap.size, 2, none⟩ (.string db)).setCell ⟨wr.heap.size, 3, none⟩ (.int .i64 1)).setCell ⟨wr.heap.size, 4, none⟩ (.int .i64 65535)).setCell ⟨wr.heap.size, 5, none⟩ (.string lb)) = wZ at *
           go_wp2_with fail
           go_meet
           exact ⟨wr.heap.size, rfl, rfl, K0, B0⟩)
        | (have K0 := Lib.hid (heap_alloc_new w7 (.cells #[.string nb, .int .i64 2, .string db, .int .i64 1, .int .i64 65535, .string lb] 62 (0, 0)))
           have B0 := Lib.hid (HB7.out.alloc HB7.out.size (.cells #[.string nb, .int .i64 2, .string db, .int .i64 1, .int .i64 65535, .string lb] 62 (0, 0)))
           generalize (w7.alloc (.cells #[.string nb, .int .i64 2, .string db, .int .i64 1, .int .i64 65535, .string lb] 62 (0, 0))) = wZ at *
           go_wp2_with fail
           go_meet
           exact ⟨w7.heap.size, rfl, rfl, K0, B0⟩)
    case rest =>
      obtain ⟨blk, rfl, rfl, HkA, HbA⟩ := hcut
      obtain ⟨wA, hwA⟩ : ∃ wA, wA = wc := ⟨_, rfl⟩
      rw [← hwA] at HkA HbA ⊢
      clear hwA
      have d0 : wA.cell? ⟨blk, 0, none⟩ = some (.string nb) := cell_in HkA.out
      have d1 : wA.cell? ⟨blk, 1, none⟩ = some (.int .i64 2) := cell_in HkA.out
      have hlA := lt_of_block HkA.out
      have g1 : wA.cell? ⟨br, 0, none⟩ = some (.pointer (some ⟨b, 0, none⟩)) := (HbA.out.cell (p := ⟨br, 0, none⟩) hlr).trans g0
      have hlrA : br < wA.heap.size := Nat.lt_of_lt_of_le hlr HbA.out.size
      go_wp2_with fail
      go_region_law (first
        | (refine step_call (by rfl) 88 _ _ (by rfl) egWants _ (by rfl) _ _ (HWa.out _ (then_bel HbA.out HbA.out.size (Below.refl _ _).drew) _) ?_; intro w8 hq8; have HQ8 := Lib.hid hq8; clear hq8)
        | fail)
      all_goals
        go_wp2_with fail
        go_ret
        exact ⟨rfl, HQ8.out⟩
end Go.Proofs.YtpfhhaonfbfheaaGreatDoor.fl
/- Package flag: what Parse uses. Conditions: as stated. -/
namespace Go.Proofs.YtpfhhaonfbfheaaGreatDoor.fl
open Go.ChangeShapes Go.WideShapes Go.ChangeAt Go.RowKit gl va ls ky en

theorem results_cell_row3 {P : Program} {fn : Func} {p u v : Tmp} {ty : TypeId} (h : fn.results = #[.cell p ty, .tmp u, .tmp v]) (tmps : Array Value) (w : World) (g : Nat) (t : TypeId) (cs : Array Value) (fr : Nat × Nat) (d : TypeDesc)
    (hp : tmps.getD p undef = .pointer (some ⟨g, 0, none⟩)) (hg : w.heap[g]? = some (.cells cs t fr))
    (hu : P.underlying ty = some d) (hd : (match d with | .struct _ | .array _ _ => true | _ => false) = true) (hi : (P.info? ty).map (·.size) = some cs.size) :
    (results fn tmps).run P w = .ok (.tuple #[.agg cs, tmps.getD u undef, tmps.getD v undef]) w := by
  have hp' : tmps[p]?.getD undef = .pointer (some ⟨g, 0, none⟩) := by simpa using hp
  simp [results, h, hp', asAddr, run_loadVar_row w g t ty cs fr d hg hu hd hi]
section
variable {w0 w w' : World} {b ba bx br bz bs os n c k : Nat} {G : List Gv} {R : List (List UInt8)} {h : Bool}
theorem RS.atset (H : RS w0 w b ba bx br bz bs os n c k G R h) (m : Nat) : RS w0 (w.setCell ⟨ba, 0, none⟩ (.int .i64 (m : Int))) b ba bx br bz bs os n c (m + 1) G R h := by
  obtain ⟨h1, h2, ⟨pg, cg, pr, cr, h3, h4, h5⟩, h6, h7, h8⟩ := H
  refine ⟨?_, heap_set_ne h2 _ (ne_of_types h2 h1 (by decide)), ⟨pg, cg, pr, cr, heap_set_ne h3 _ (ne_of_types h3 h1 (by decide)), own_set h4 h1 (by decide), own_set h5 h1 (by decide)⟩, h6, h7.setCell (p := ⟨ba, 0, none⟩) h6.1 _, heap_set_ne h8 _ (ne_of_types h8 h1 (by decide))⟩
  have e : (((m + 1 : Nat) : Int) - 1) = (m : Int) := by omega
  rw [e]
  exact heap_set h1 _
theorem rs_start (w : World) (b bs os n c : Nat) : RS w ((((w.alloc (.cells #[.slice (some ⟨bs, os, none⟩) n c] 38)).alloc (.cells #[.slice none 0 0, .slice none 0 0, .bool false] 70)).alloc (.cells #[.int .i64 (-1)] 3)).alloc (.cells #[.pointer (some ⟨b, 0, none⟩), .slice none 0 0, .slice none 0 0, .bool false, nextF (w.heap.size + 1 + 1) w.heap.size] 94)) b (w.heap.size + 1 + 1) w.heap.size (w.heap.size + 1 + 1 + 1) (w.heap.size + 1) bs os n c 0 [] [] false := by
  obtain ⟨w1, h1⟩ : ∃ w1, w1 = w.alloc (.cells #[.slice (some ⟨bs, os, none⟩) n c] 38) := ⟨_, rfl⟩
  have k1 : w1.heap[w.heap.size]? = some (.cells #[.slice (some ⟨bs, os, none⟩) n c] 38 (0, 0)) := by rw [h1]; exact heap_alloc_new w _
  have z1 : w1.heap.size = w.heap.size + 1 := by rw [h1]; simp
  have b1 : Below w.heap.size w w1 := by rw [h1]; exact (Below.refl _ _).alloc (Nat.le_refl _) _
  rw [← h1]
  clear h1
  obtain ⟨w2, h2⟩ : ∃ w2, w2 = w1.alloc (.cells #[.slice none 0 0, .slice none 0 0, .bool false] 70) := ⟨_, rfl⟩
  have k2 : w2.heap[w.heap.size + 1]? = some (.cells #[.slice none 0 0, .slice none 0 0, .bool false] 70 (0, 0)) := by rw [h2, ← z1]; exact heap_alloc_new w1 _
  have z2 : w2.heap.size = w.heap.size + 1 + 1 := by rw [h2]; simp [z1]
  have b2 : Below w1.heap.size w1 w2 := by rw [h2]; exact (Below.refl _ _).alloc (Nat.le_refl _) _
  rw [← h2]
  clear h2
  obtain ⟨w3, h3⟩ : ∃ w3, w3 = w2.alloc (.cells #[.int .i64 (-1)] 3) := ⟨_, rfl⟩
  have k3 : w3.heap[w.heap.size + 1 + 1]? = some (.cells #[.int .i64 (-1)] 3 (0, 0)) := by rw [h3, ← z2]; exact heap_alloc_new w2 _
  have z3 : w3.heap.size = w.heap.size + 1 + 1 + 1 := by rw [h3]; simp [z2]
  have b3 : Below w2.heap.size w2 w3 := by rw [h3]; exact (Below.refl _ _).alloc (Nat.le_refl _) _
  rw [← h3]
  clear h3
  obtain ⟨w4, h4⟩ : ∃ w4, w4 = w3.alloc (.cells #[.pointer (some ⟨b, 0, none⟩), .slice none 0 0, .slice none 0 0, .bool false, nextF (w.heap.size + 1 + 1) w.heap.size] 94) := ⟨_, rfl⟩
  have k4 : w4.heap[w.heap.size + 1 + 1 + 1]? = some (.cells #[.pointer (some ⟨b, 0, none⟩), .slice none 0 0, .slice none 0 0, .bool false, nextF (w.heap.size + 1 + 1) w.heap.size] 94 (0, 0)) := by rw [h4, ← z3]; exact heap_alloc_new w3 _
  have b4 : Below w3.heap.size w3 w4 := by rw [h4]; exact (Below.refl _ _).alloc (Nat.le_refl _) _
  rw [← h4]
  clear h4
  have b34 := then_bel b3 b3.size b4
  have b24 := then_bel b2 b2.size b34
  refine ⟨(b4.block _ (lt_of_block k3)).trans k3, (b24.block _ (lt_of_block k1)).trans k1, ⟨none, 0, none, 0, k4, ?_, ?_⟩, ⟨by omega, by omega, by omega⟩, then_bel b1 b1.size b24, (b34.block _ (lt_of_block k2)).trans k2⟩
  · exact World.ownsRow_nil _ _ _ _
  · exact World.ownsRow_nil _ _ _ _
/-- The next argument, or none. -/
theorem next_any (H : RS w0 w b ba bx br bz bs os n c k G R h) (args : List (List UInt8)) (hA : Sts w0 (.slice (some ⟨bs, os, none⟩) n c) args) (hl : args.length = n) (hn : n ≤ 100) (hk : k ≤ 1000) :
    Calls Tryz.prog 66 #[.pointer (some ⟨ba, 0, none⟩), .pointer (some ⟨bx, 0, none⟩)] w fun e w' => ∃ X is, e = .returned (.tuple #[.string X, .bool is]) ∧ ((is = true ∧ ∃ x, args[k]? = some x ∧ k < n ∧ X = B x ∧ RS w0 w' b ba bx br bz bs os n c (k + 1) G R h) ∨ (is = false ∧ n ≤ k ∧ RS w0 w' b ba bx br bz bs os n c k G R h)) := by
  by_cases hlt : k < n
  · obtain ⟨x, hx⟩ : ∃ x, args[k]? = some x := ⟨_, List.getElem?_eq_getElem (by omega)⟩
    refine (next_more H args hA x hx hlt hn).mono ?_
    rintro e w' ⟨rfl, rfl⟩
    exact ⟨_, _, rfl, .inl ⟨rfl, x, hx, hlt, rfl, H.next⟩⟩
  · refine (next_none H (by omega) hk).mono ?_
    rintro e w' ⟨rfl, rfl⟩
    exact ⟨_, _, rfl, .inr ⟨rfl, by omega, H⟩⟩
end
/-- Texts more that are no flags. -/
theorem rs_rest {w0 w w5 : World} {b ba bx br bz bs os n c k nr g' cg cap' cr m : Nat} {G : List Gv} {R more : List (List UInt8)} {h : Bool} {pg pr : Option Addr} (hnr : R.length = nr) (hm : more.length = m)
    (h1 : w.heap[ba]? = some (.cells #[.int .i64 ((k : Int) - 1)] 3 (0, 0))) (h2 : w.heap[bx]? = some (.cells #[.slice (some ⟨bs, os, none⟩) n c] 38 (0, 0)))
    (h3 : w.heap[br]? = some (.cells #[.pointer (some ⟨b, 0, none⟩), .slice pg G.length cg, .slice pr nr cr, .bool h, nextF ba bx] 94 (0, 0))) (h4 : w.ownsRow w0.heap.size 35 3 (.slice pg G.length cg) G.length (rw.flat gvC G)) (h5 : w.ownsRow w0.heap.size 9 1 (.slice pr nr cr) nr (rw.flat stC R))
    (h6 : w0.heap.size ≤ ba ∧ w0.heap.size ≤ bx ∧ w0.heap.size ≤ br) (h7 : Below w0.heap.size w0 w) (h8 : w.heap[bz]? = some (.cells #[.slice none 0 0, .slice none 0 0, .bool false] 70 (0, 0)))
    (ho : w5.ownsRow w0.heap.size 9 1 (.slice (some ⟨g', 0, none⟩) (nr + m) cap') (nr + m) (rw.flat stC R ++ rw.flat stC more)) (hg : w.grownBy w5 (Value.slice pr nr cr).ownBlock) :
    RS w0 (w5.setCell ⟨br, 2, none⟩ (.slice (some ⟨g', 0, none⟩) (nr + m) cap')) b ba bx br bz bs os n c k G (R ++ more) h := by
  have k1 := (hg.block ba (lt_of_block h1) (own_ne h5 h1 (by decide))).trans h1
  have k2 := (hg.block bx (lt_of_block h2) (own_ne h5 h2 (by decide))).trans h2
  have k3 := (hg.block br (lt_of_block h3) (own_ne h5 h3 (by decide))).trans h3
  have k8 := (hg.block bz (lt_of_block h8) (own_ne h5 h8 (by decide))).trans h8
  have k4 : w5.ownsRow w0.heap.size 35 3 (.slice pg G.length cg) G.length (rw.flat gvC G) := (Upd.of_grown (S := (Value.slice pr nr cr).ownBlock.toList) hg (fun q hq => by rw [hq]; simp)).row h4 fun q hq hm => by
    have hm' : (Value.slice pr nr cr).ownBlock = some q := by simpa using hm
    rcases h4.2 with ⟨e, _⟩ | ⟨q', cap, cur, e, _, hq', _⟩
    · rw [e] at hq; cases hq
    · rw [e] at hq
      obtain rfl : q' = q := Option.some.inj hq
      exact own_ne h5 hq' (by decide) hm'.symm
  have hl : (R ++ more).length = nr + m := by simp [hnr, hm]
  refine ⟨heap_set_ne k1 _ (ne_of_types k1 k3 (by decide)), heap_set_ne k2 _ (ne_of_types k2 k3 (by decide)), ⟨pg, cg, some ⟨g', 0, none⟩, cap', ?_, own_set k4 k3 (by decide), ?_⟩, h6, ?_, heap_set_ne k8 _ (ne_of_types k8 k3 (by decide))⟩
  · rw [hl]
    exact heap_set k3 _
  · rw [hl]
    have e : rw.flat stC (R ++ more) = rw.flat stC R ++ rw.flat stC more := by simp [rw.flat]
    rw [e]
    exact own_set ho k3 (by decide)
  · exact (below_grown_own h7 h5 hg h7.size).setCell (p := ⟨br, 2, none⟩) h6.2.2 _
end Go.Proofs.YtpfhhaonfbfheaaGreatDoor.fl
/- Package flag: Parse of arguments of five forms. Conditions: as stated. -/
namespace Go.Proofs.YtpfhhaonfbfheaaGreatDoor.fl
open Go.ChangeShapes Go.WideShapes Go.ChangeAt Go.RowKit gl va ls ky en

def tP : List UInt8 := [45, 112]
def tX : List UInt8 := [120]
def tD : List UInt8 := [45, 45, 98, 111, 111, 116, 46, 100, 114, 121]
def tH : List UInt8 := [45, 104]
def tE : List UInt8 := [45, 45]
abbrev St := Nat → List Gv → List (List UInt8) → Bool → Prop
/-- What one argument does. -/
def Steps (args : List (List UInt8)) (n : Nat) (Q : St) (Er : Nat → Prop) : Prop := ∀ k G R h x, Q k G R h → k < n → args[k]? = some x → G.length ≤ 100 ∧ R.length ≤ 100 ∧
  ((x = tP ∧ ∃ y, args[k + 1]? = some y ∧ k + 1 < n ∧ Q (k + 2) (G ++ [⟨portK.name, y, k⟩]) R h) ∨ (x = tP ∧ n ≤ k + 1 ∧ Er k) ∨ (x = tX ∧ Q (k + 1) G (R ++ [tX]) h) ∨
   (x = tD ∧ Q (k + 1) (G ++ [⟨dryK.name, [116, 114, 117, 101], k⟩]) R h) ∨ (x = tH ∧ Q (k + 1) G R true) ∨ (x = tE ∧ k + 1 < n ∧ Q (n + 1) G (R ++ args.drop (k + 1)) h))
theorem own_set3 {w : World} {T T' : TypeId} {B0 sz m o0 o1 o2 : Nat} {v u0 u1 u2 : Value} {xs : List Value} {g : Nat} {cs : Array Value} (ho : w.ownsRow B0 T sz v m xs) (hg : w.heap[g]? = some (.cells cs T' (0, 0))) (ht : T' ≠ T) : (((w.setCell ⟨g, o0, none⟩ u0).setCell ⟨g, o1, none⟩ u1).setCell ⟨g, o2, none⟩ u2).ownsRow B0 T sz v m xs :=
  own_set (own_set (own_set ho hg ht) (heap_set hg _) ht) (heap_set (heap_set hg _) _) ht
theorem rw_flat_st (l : List (List UInt8)) : rw.flat stC l = l.map (fun x => Value.string (B x)) := by
  induction l with
  | nil => rfl
  | cons a l ih =>
    have : rw.flat stC (a :: l) = stC a ++ rw.flat stC l := by simp [rw.flat]
    rw [this, ih]; rfl
theorem st_one (l : List (List UInt8)) : ∀ u ∈ rw.flat stC l, u.oneCell' = true := by
  rw [rw_flat_st]
  intro u hu
  obtain ⟨x, _, rfl⟩ := List.mem_map.1 hu
  rfl
theorem st_news {w : World} {bs os n c : Nat} {args : List (List UInt8)} (hA : Sts w (.slice (some ⟨bs, os, none⟩) n c) args) (m : Nat) : ∀ (j : Nat) (u : Value), (rw.flat stC (args.drop m))[j]? = some u → w.cell? ((⟨bs, os + m, none⟩ : Addr).add j) = some u := by
  intro j u hu
  rw [rw_flat_st, List.getElem?_map, List.getElem?_drop] at hu
  cases hx : args[m + j]? with
  | none => rw [hx] at hu; cases hu
  | some x =>
    rw [hx] at hu
    have := st_cell hA hx
    have e : ((⟨bs, os + m, none⟩ : Addr).add j) = ⟨bs, os + (m + j), none⟩ := by unfold Addr.add; split <;> simp_all [Nat.add_assoc]
    rw [e, this]
    exact hu
theorem infoSt : (Tryz.prog.info? 9).map (fun i => (i.zero, i.size, i.bytes)) = some (some (.string .empty), 1, 16) := by kernel_rfl
/-- The relation at the loop's head. -/
def Hd (w wr : World) (b bs os n c : Nat) (args : List (List UInt8)) (Q : St) (gs : Nat) (X : ByteArray) (is : Bool) : Prop :=
  ∃ k G R h, Q k G R h ∧ n + 1 ≤ k + gs ∧ k ≤ n + 1 ∧ ((is = true ∧ ∃ x, args[k]? = some x ∧ k < n ∧ X = B x ∧ RS w wr b (w.heap.size + 1 + 1) w.heap.size (w.heap.size + 1 + 1 + 1) (w.heap.size + 1) bs os n c (k + 1) G R h) ∨ (is = false ∧ n ≤ k ∧ RS w wr b (w.heap.size + 1 + 1) w.heap.size (w.heap.size + 1 + 1 + 1) (w.heap.size + 1) bs os n c k G R h))

set_option maxHeartbeats 4000000 in
set_option maxRecDepth 100000 in
theorem Parse_any {w : World} {b bs os n c : Nat} {M : Nat} (hS : SetK M w b stdK) (hGl : Glo w) (args : List (List UInt8)) (hA : Sts w (.slice (some ⟨bs, os, none⟩) n c) args) (hl : args.length = n) (hn : n ≤ 100) (hc : n ≤ c) (hc2 : c ≤ 1000) (Q : St) (Er : Nat → Prop) (hQ0 : Q 0 [] [] false) (hQ : Steps args n Q Er) :
    Calls Tryz.prog 44 #[.pointer (some ⟨b, 0, none⟩), .slice (some ⟨bs, os, none⟩) n c] w fun e w' => ((∃ k G R h vg vr, Q k G R h ∧ n ≤ k ∧ e = .returned (.tuple #[.agg #[vg, vr, .bool h], .int .i64 0, .int .i64 0]) ∧ w'.ownsRow w.heap.size 35 3 vg G.length (rw.flat gvC G) ∧ w'.ownsRow w.heap.size 9 1 vr R.length (rw.flat stC R)) ∨
      (∃ k, Er k ∧ e = .returned (.tuple #[.agg #[.slice none 0 0, .slice none 0 0, .bool false], .int .i64 72, .int .i64 k]))) ∧ Below w.heap.size w w' := by
  obtain ⟨i1, si, sz0, sz1, sz2⟩ := info_parts infoSt
  have HS := Lib.hid hS
  have HGl := Lib.hid hGl
  have HA := Lib.hid hA
  have Hl := Lib.hid hl
  have HQ0 := Lib.hid hQ0
  have HQ := Lib.hid hQ
  have HNx := Lib.hid fun (W : World) (k : Nat) (G : List Gv) (R : List (List UInt8)) (h : Bool) (H : RS w W b (w.heap.size + 1 + 1) w.heap.size (w.heap.size + 1 + 1 + 1) (w.heap.size + 1) bs os n c k G R h) (hk : k ≤ 1000) => next_any H args hA hl hn hk
  have eg := egNext
  clear hS hGl hA hl hQ0 hQ
  go_enter Tryz.func44, Tryz.ntmps44
  go_upto_region 5 with fail
  refine go_name2 (fun wA hA => ?_)
  have HR0 : Hid (RS w wA b (w.heap.size + 1 + 1) w.heap.size (w.heap.size + 1 + 1 + 1) (w.heap.size + 1) bs os n c 0 [] [] false) := Lib.hid (by rw [hA]; exact rs_start w b bs os n c)
  clear hA
  obtain ⟨pg, cg, pr, cr, h3, _, _⟩ := HR0.out.rec_
  have g4 : wA.cell? ⟨w.heap.size + 1 + 1 + 1, 4, none⟩ = some (nextF (w.heap.size + 1 + 1) w.heap.size) := cell_in h3
  have hlr := lt_of_block h3
  clear h3
  focus
    go_wp2_with (go_at_fn 66; go_must (refine (HNx.out wA 0 [] [] false HR0.out (by omega)).mono ?_))
  rintro e w1 ⟨X1, is1, rfl, hh1⟩
  have HH1 : Hid (Hd w w1 b bs os n c args Q (n + 1) X1 is1) := Lib.hid ⟨0, [], [], false, HQ0.out, by omega, by omega, hh1⟩
  clear hh1 g4 hlr
  go_wp2_with fail
  go_loopg [9, 10] (n + 1) (fun gs v9 v10 wr => ∃ X is, v9 = .string X ∧ v10 = .bool is ∧ Hid (Hd w wr b bs os n c args Q gs X is))
  case atStart => exact ⟨_, _, rfl, rfl, HH1⟩
  case round =>
    obtain ⟨X, is, rfl, rfl, HH⟩ := hrel
    obtain ⟨wo, rfl⟩ : ∃ wo, wo = wr := ⟨_, rfl⟩
    obtain ⟨k, G, R, h, hq, hgs, hkn, hcase⟩ := HH.out
    clear HH HH1
    have Hq := Lib.hid hq
    clear hq
    rcases hcase with ⟨rfl, x, hx, hk, rfl, hR⟩ | ⟨rfl, hk, hR⟩
    · have HR := Lib.hid hR
      obtain ⟨hG1, hR1, hst⟩ := HQ.out k G R h x Hq.out hk hx
      have a0 : wo.cell? ⟨w.heap.size + 1 + 1, 0, none⟩ = some (.int .i64 (k : Int)) := by
        have : wo.cell? ⟨w.heap.size + 1 + 1, 0, none⟩ = some (.int .i64 (((k + 1 : Nat) : Int) - 1)) := cell_in hR.at_
        rwa [show (((k + 1 : Nat) : Int) - 1) = (k : Int) by omega] at this
      have hla := lt_of_block hR.at_
      clear hR
      rcases hst with ⟨rfl, y, hy, hk1, hq2⟩ | ⟨rfl, hk1, hEr⟩ | ⟨rfl, hq2⟩ | ⟨rfl, hq2⟩ | ⟨rfl, hq2⟩ | ⟨rfl, hk1, hq2⟩
      · have Hq2 := Lib.hid hq2
        clear hq2
        clear hx
        go_wp2_with fail
        go_quiet (fail)
        rename_i nq
        have HR1 := Lib.hid (HR.out.later (drewN_bel wo nq))
        obtain ⟨wB, hwB⟩ : ∃ wB, wB = wo.drewN nq := ⟨_, rfl⟩
        rw [← hwB] at HR1 ⊢
        clear hwB a0 hla HR
        go_wp2_with fail
        refine (kind_p wB).mono ?_
        rintro e w2 ⟨rfl, rfl⟩
        go_wp2_with fail
        refine (letters_p HR1.out M HS.out k 0 (fun W => RS w W b (w.heap.size + 1 + 1) w.heap.size (w.heap.size + 1 + 1 + 1) (w.heap.size + 1) bs os n c (k + 2) (G ++ [⟨portK.name, y, k⟩]) R h) (fun W hW T => wants_more hW args HA.out y hy hk1 hn (by omega) portK.name T k)).mono ?_
        rintro e w5 ⟨rfl, hR5⟩
        have HR5 := Lib.hid hR5
        clear hR5 hy

        obtain ⟨pg5, cg5, pr5, cr5, h35, _, _⟩ := HR5.out.rec_
        have g45 : w5.cell? ⟨w.heap.size + 1 + 1 + 1, 4, none⟩ = some (nextF (w.heap.size + 1 + 1) w.heap.size) := cell_in h35
        have hlr5 := lt_of_block h35
        clear h35
        focus
          go_wp2_with (go_at_fn 66; go_must (refine (HNx.out w5 _ _ _ _ HR5.out (by omega)).mono ?_))
        rintro e w6 ⟨X6, is6, rfl, hh6⟩
        have HH6 : Hid (Hd w w6 b bs os n c args Q (n + 1 - (k + 2)) X6 is6) := Lib.hid ⟨_, _, _, _, Hq2.out, by omega, by omega, hh6⟩
        clear hh6 g45 hlr5
        go_wp2_with fail
        go_roundg (n + 1 - (k + 2))
        case rel => exact ⟨_, _, rfl, rfl, HH6⟩
        case measure => omega
      · have HEr := Lib.hid hEr
        clear hEr
        clear hx
        go_wp2_with fail
        go_quiet (fail)
        rename_i nq
        have HR1 := Lib.hid (HR.out.later (drewN_bel wo nq))
        obtain ⟨wB, hwB⟩ : ∃ wB, wB = wo.drewN nq := ⟨_, rfl⟩
        rw [← hwB] at HR1 ⊢
        clear hwB a0 hla HR
        go_wp2_with fail
        refine (kind_p wB).mono ?_
        rintro e w2 ⟨rfl, rfl⟩
        go_wp2_with fail
        refine (letters_p HR1.out M HS.out k 72 (fun W => ∃ W0, RS w W0 b (w.heap.size + 1 + 1) w.heap.size (w.heap.size + 1 + 1 + 1) (w.heap.size + 1) bs os n c (k + 1) G R h ∧ Below W0.heap.size W0 W) (fun W hW T => (wants_none hW hk1 (by omega) _ T k).mono (by rintro e w' ⟨rfl, hb⟩; exact ⟨rfl, W, hW, hb⟩))).mono ?_
        rintro e w5 ⟨rfl, w50, hR50, hb50⟩
        have hR5 := hR50.later hb50
        have hz5 := hR5.z_
        have Hz5 := Lib.hid hz5
        have z0 : w5.cell? ⟨w.heap.size + 1, 0, none⟩ = some (.slice none 0 0) := cell_in hz5
        have z1 : w5.cell? ⟨w.heap.size + 1, 1, none⟩ = some (.slice none 0 0) := cell_in hz5
        have z2 : w5.cell? ⟨w.heap.size + 1, 2, none⟩ = some (.bool false) := cell_in hz5
        have y0 : w5.frozen? ⟨w.heap.size + 1, 0, none⟩ = false := free_in hz5
        have y1 : w5.frozen? ⟨w.heap.size + 1, 1, none⟩ = false := free_in hz5
        have y2 : w5.frozen? ⟨w.heap.size + 1, 2, none⟩ = false := free_in hz5
        have ylt := lt_of_block hz5
        have HB5 := Lib.hid hR5.bel
        clear hb50 hR50 hR5 hz5
        go_wp2_with fail
        have HZ := Lib.hid (heap_set (o := 2) (heap_set (o := 1) (heap_set (o := 0) Hz5.out (.slice none 0 0)) (.slice none 0 0)) (.bool false))
        refine bodyPost_ret (results_cell_row3 rfl _ _ (w.heap.size + 1) 70 _ _ _ rfl HZ.out Tryz.underlying70 rfl (by kernel_rfl)) rfl ?_
        exact ⟨.inr ⟨k, HEr.out, rfl⟩, ((HB5.out.setCell (p := ⟨w.heap.size + 1, 0, none⟩) (by simp) _).setCell (p := ⟨w.heap.size + 1, 1, none⟩) (by simp) _).setCell (p := ⟨w.heap.size + 1, 2, none⟩) (by simp) _⟩
      · have Hq2 := Lib.hid hq2
        clear hq2
        clear hx
        go_wp2_with fail
        go_quiet (fail)
        rename_i nq
        have HR1 := Lib.hid (HR.out.later (drewN_bel wo nq))
        obtain ⟨wB, hwB⟩ : ∃ wB, wB = wo.drewN nq := ⟨_, rfl⟩
        rw [← hwB] at HR1 ⊢
        clear hwB a0 hla HR
        go_wp2_with fail
        refine (kind_x wB).mono ?_
        rintro e w2 ⟨rfl, rfl⟩
        obtain ⟨h1, h2, ⟨pg, cg, pr, cr, h3, h4, h5⟩, h6, h7, h8⟩ := HR1.out
        obtain ⟨nr, hnr⟩ : ∃ nr, R.length = nr := ⟨_, rfl⟩
        rw [hnr] at h3 h5 hR1
        have r2 : w2.cell? ⟨w.heap.size + 1 + 1 + 1, 2, none⟩ = some (.slice pr nr cr) := cell_in h3
        have hlr := lt_of_block h3
        have HO := Lib.hid h5
        have hz := h7.size
        have HRR := Lib.hid fun (w5 : World) g' cap' m more (hm : more.length = m) => rs_rest (w5 := w5) (g' := g') (cap' := cap') (m := m) (more := more) hnr hm h1 h2 h3 h4 h5 h6 h7 h8
        have Hk3 := Lib.hid h3
        have Hne := Lib.hid (own_ne h5 h3 (by decide))

        clear h1 h2 h3 h4 h5 h6 h7 h8 hnr HR1
        focus
          go_wp2_with (at_builtin; go_must (refine wpList_append_k rfl _ _ 38 rfl 9 i1 _ 1 16 Tryz.underlying38 si sz0 sz1 sz2 rfl (by omega) _ (by rfl) (by rfl) w.heap.size _ nr _ (by rfl) HO.out (by simp [Value.oneCell']) (by omega) (by omega) (by omega) ?_))
        intro g' cap' w4 hown hgrow hat4 hz4 hlt4
        have HR5 := Lib.hid (HRR.out w4 g' cap' 1 [tX] rfl hown hgrow)
        have k3 := (hgrow.block _ (lt_of_block Hk3.out) Hne.out).trans Hk3.out
        have q1 : w4.cell? ⟨w.heap.size + 1 + 1 + 1, 2, none⟩ = some (.slice pr nr cr) := cell_in k3
        have q2 : w4.frozen? ⟨w.heap.size + 1 + 1 + 1, 2, none⟩ = false := free_in k3
        have q3 := lt_of_block k3
        clear hown hgrow hat4 k3 r2 hlr
        go_upto_region 21 with fail
        obtain ⟨w5, hw5⟩ : ∃ w5, w5 = w4.setCell ⟨w.heap.size + 1 + 1 + 1, 2, none⟩ (.slice (some ⟨g', 0, none⟩) (nr + 1) cap') := ⟨_, rfl⟩
        rw [← hw5] at HR5 ⊢
        clear hw5 q1 q2 q3

        obtain ⟨pg5, cg5, pr5, cr5, h35, _, _⟩ := HR5.out.rec_
        have g45 : w5.cell? ⟨w.heap.size + 1 + 1 + 1, 4, none⟩ = some (nextF (w.heap.size + 1 + 1) w.heap.size) := cell_in h35
        have hlr5 := lt_of_block h35
        clear h35
        focus
          go_wp2_with (go_at_fn 66; go_must (refine (HNx.out w5 _ _ _ _ HR5.out (by omega)).mono ?_))
        rintro e w6 ⟨X6, is6, rfl, hh6⟩
        have HH6 : Hid (Hd w w6 b bs os n c args Q (n + 1 - (k + 1)) X6 is6) := Lib.hid ⟨_, _, _, _, Hq2.out, by omega, by omega, hh6⟩
        clear hh6 g45 hlr5
        go_wp2_with fail
        go_roundg (n + 1 - (k + 1))
        case rel => exact ⟨_, _, rfl, rfl, HH6⟩
        case measure => omega
      · have Hq2 := Lib.hid hq2
        clear hq2
        clear hx
        go_wp2_with fail
        go_quiet (fail)
        rename_i nq
        have HR1 := Lib.hid (HR.out.later (drewN_bel wo nq))
        obtain ⟨wB, hwB⟩ : ∃ wB, wB = wo.drewN nq := ⟨_, rfl⟩
        rw [← hwB] at HR1 ⊢
        clear hwB a0 hla HR
        go_wp2_with fail
        refine (kind_dry wB).mono ?_
        rintro e w2 ⟨rfl, rfl⟩
        go_wp2_with fail
        refine (word_dry HR1.out (by omega) M HS.out HGl.out k).mono ?_
        rintro e w5 ⟨rfl, hR5⟩
        have HR5 := Lib.hid hR5
        clear hR5

        obtain ⟨pg5, cg5, pr5, cr5, h35, _, _⟩ := HR5.out.rec_
        have g45 : w5.cell? ⟨w.heap.size + 1 + 1 + 1, 4, none⟩ = some (nextF (w.heap.size + 1 + 1) w.heap.size) := cell_in h35
        have hlr5 := lt_of_block h35
        clear h35
        focus
          go_wp2_with (go_at_fn 66; go_must (refine (HNx.out w5 _ _ _ _ HR5.out (by omega)).mono ?_))
        rintro e w6 ⟨X6, is6, rfl, hh6⟩
        have HH6 : Hid (Hd w w6 b bs os n c args Q (n + 1 - (k + 1)) X6 is6) := Lib.hid ⟨_, _, _, _, Hq2.out, by omega, by omega, hh6⟩
        clear hh6 g45 hlr5
        go_wp2_with fail
        go_roundg (n + 1 - (k + 1))
        case rel => exact ⟨_, _, rfl, rfl, HH6⟩
        case measure => omega
      · have Hq2 := Lib.hid hq2
        clear hq2
        clear hx
        go_wp2_with fail
        go_quiet (fail)
        rename_i nq
        have HR1 := Lib.hid (HR.out.later (drewN_bel wo nq))
        obtain ⟨wB, hwB⟩ : ∃ wB, wB = wo.drewN nq := ⟨_, rfl⟩
        rw [← hwB] at HR1 ⊢
        clear hwB a0 hla HR
        go_wp2_with fail
        refine (kind_h wB).mono ?_
        rintro e w2 ⟨rfl, rfl⟩
        obtain ⟨pg, cg, pr, cr, h3, _, _⟩ := HR1.out.rec_
        have q1 : w2.cell? ⟨w.heap.size + 1 + 1 + 1, 3, none⟩ = some (.bool h) := cell_in h3
        have q2 : w2.frozen? ⟨w.heap.size + 1 + 1 + 1, 3, none⟩ = false := free_in h3
        have q3 := lt_of_block h3
        clear h3
        have HR5 := Lib.hid HR1.out.help
        go_upto_region 21 with fail
        obtain ⟨w5, hw5⟩ : ∃ w5, w5 = w2.setCell ⟨w.heap.size + 1 + 1 + 1, 3, none⟩ (.bool true) := ⟨_, rfl⟩
        rw [← hw5] at HR5 ⊢
        clear hw5 q1 q2 q3

        obtain ⟨pg5, cg5, pr5, cr5, h35, _, _⟩ := HR5.out.rec_
        have g45 : w5.cell? ⟨w.heap.size + 1 + 1 + 1, 4, none⟩ = some (nextF (w.heap.size + 1 + 1) w.heap.size) := cell_in h35
        have hlr5 := lt_of_block h35
        clear h35
        focus
          go_wp2_with (go_at_fn 66; go_must (refine (HNx.out w5 _ _ _ _ HR5.out (by omega)).mono ?_))
        rintro e w6 ⟨X6, is6, rfl, hh6⟩
        have HH6 : Hid (Hd w w6 b bs os n c args Q (n + 1 - (k + 1)) X6 is6) := Lib.hid ⟨_, _, _, _, Hq2.out, by omega, by omega, hh6⟩
        clear hh6 g45 hlr5
        go_wp2_with fail
        go_roundg (n + 1 - (k + 1))
        case rel => exact ⟨_, _, rfl, rfl, HH6⟩
        case measure => omega
      · have Hq2 := Lib.hid hq2
        clear hq2
        clear hx
        go_wp2_with fail
        go_quiet (fail)
        rename_i nq
        have HR1 := Lib.hid (HR.out.later (drewN_bel wo nq))
        obtain ⟨wB, hwB⟩ : ∃ wB, wB = wo.drewN nq := ⟨_, rfl⟩
        rw [← hwB] at HR1 ⊢
        clear hwB a0 hla HR
        go_wp2_with fail
        refine (kind_e wB).mono ?_
        rintro e w2 ⟨rfl, rfl⟩
        obtain ⟨h1, h2, ⟨pg, cg, pr, cr, h3, _, _⟩, _, h7, _⟩ := HR1.out
        obtain ⟨nr, hnr⟩ : ∃ nr, R.length = nr := ⟨_, rfl⟩
        rw [hnr] at h3 hR1
        have r2 : w2.cell? ⟨w.heap.size + 1 + 1 + 1, 2, none⟩ = some (.slice pr nr cr) := cell_in h3
        have hlr := lt_of_block h3
        have x0 : w2.cell? ⟨w.heap.size, 0, none⟩ = some (.slice (some ⟨bs, os, none⟩) n c) := cell_in h2
        have a1 : w2.cell? ⟨w.heap.size + 1 + 1, 0, none⟩ = some (.int .i64 (k : Int)) := by
          have : w2.cell? ⟨w.heap.size + 1 + 1, 0, none⟩ = some (.int .i64 (((k + 1 : Nat) : Int) - 1)) := cell_in h1
          rwa [show (((k + 1 : Nat) : Int) - 1) = (k : Int) by omega] at this
        have hla := lt_of_block h1
        have hlx := lt_of_block h2
        have hdr : Below w2.heap.size w2 w2.drew := (Below.refl _ _).drew
        have hz := (then_bel h7 h7.size hdr).size
        have HNe := Lib.hid (st_news ((HA.out.later h7).later hdr) (k + 1))
        have h3d := (hdr.block _ hlr).trans h3
        clear h1 h2 h3 h7
        obtain ⟨d1, d2, ⟨pg', cg', pr', cr', d3, d4, d5⟩, d6, d7, d8⟩ := HR1.out.later hdr
        rw [hnr] at d3 d5
        obtain ⟨rfl, rfl⟩ : pr' = pr ∧ cr' = cr := by
          rw [h3d] at d3
          injection d3 with d3
          injection d3 with d3 _ _
          have e := congrArg (fun x => x.getD 2 undef) d3
          injection (show Value.slice pr nr cr = Value.slice pr' nr cr' from e) with e1 e2 e3
          exact ⟨e1.symm, e3.symm⟩
        have HO := Lib.hid d5
        have Hk3 := Lib.hid d3
        have Hne := Lib.hid (own_ne d5 d3 (by decide))
        have HRR := Lib.hid fun (w5 : World) g' cap' m more (hm : more.length = m) => rs_rest (w5 := w5) (g' := g') (cap' := cap') (m := m) (more := more) hnr hm d1 d2 d3 d4 d5 d6 d7 d8
        have hwp : IntKind.i64.wrap ((k : Int) + 1) = (k : Int) + 1 := IntWalk.i64_in _ (by omega)
        have hge : (0 : Int) ≤ (k : Int) + 1 := by omega
        have hle : (k : Int) + 1 ≤ (n : Int) := by omega
        have hck : ¬ (c = k + 1) := by omega
        have Hml : Hid ((args.drop (k + 1)).length = n - (k + 1)) := Lib.hid (by rw [List.length_drop, Hl.out])
        have Hnl : Hid ((rw.flat stC (args.drop (k + 1))).length = (n - (k + 1)) * 1) := Lib.hid (by rw [rw_flat_st, List.length_map, Hml.out]; omega)
        clear d1 d2 d3 d4 d5 d6 d7 d8 hnr h3d hdr HR1
        go_upto_region 11 with fail
        go_cut [] (fun wx => Hid (RS w wx b (w.heap.size + 1 + 1) w.heap.size (w.heap.size + 1 + 1 + 1) (w.heap.size + 1) bs os n c (k + 1) G (R ++ args.drop (k + 1)) h))
        case first =>
          go_region_law (first
            | (refine step_append_lies _ (by rfl) _ _ 38 (by rfl) w.heap.size 9 i1 _ 1 16 Tryz.underlying38 si sz0 sz1 sz2 rfl (by omega) _ nr _ (by rfl) HO.out ⟨bs, os + (k + 1), none⟩ (n - (k + 1)) (c - (k + 1)) (rw.flat stC (args.drop (k + 1))) (by rfl) Hnl.out HNe.out (st_one _) (by omega) (by unfold maxLen; omega) (by omega) (by omega) _ rfl ?_; intro g' cap' w4 hown hgrow hat4 hlt4; have HR4 := Lib.hid (HRR.out w4 g' cap' _ _ Hml.out hown hgrow); have k3 := (hgrow.block _ (lt_of_block Hk3.out) Hne.out).trans Hk3.out; have q1 : w4.cell? ⟨w.heap.size + 1 + 1 + 1, 2, none⟩ = some (.slice pr' nr cr') := cell_in k3; have q2 : w4.frozen? ⟨w.heap.size + 1 + 1 + 1, 2, none⟩ = false := free_in k3; have q3 := lt_of_block k3; clear hown hgrow hat4 k3)
            )
          all_goals
            go_wp2_with fail
            go_meet
            exact HR4
        case rest =>
          clear r2 hlr x0 a1 hla hlx HO Hk3 Hne HNe HRR
          obtain ⟨wy, hwy⟩ : ∃ wy, wy = wc := ⟨_, rfl⟩
          rw [← hwy] at hcut ⊢
          clear hwy
          have y2 := hcut.out.bx_
          have y1 := hcut.out.at_
          have x2 : wy.cell? ⟨w.heap.size, 0, none⟩ = some (.slice (some ⟨bs, os, none⟩) n c) := cell_in y2
          have xl := lt_of_block y2
          have f0 : wy.frozen? ⟨w.heap.size + 1 + 1, 0, none⟩ = false := free_in y1
          have f1 : wy.cell? ⟨w.heap.size + 1 + 1, 0, none⟩ = some (.int .i64 (((k + 1 : Nat) : Int) - 1)) := cell_in y1
          have fl := lt_of_block y1
          have HR5 := Lib.hid (hcut.out.atset n)
          clear y1 y2 hcut
          go_upto_region 21 with fail
          obtain ⟨w5, hw5⟩ : ∃ w5, w5 = wy.setCell ⟨w.heap.size + 1 + 1, 0, none⟩ (.int .i64 (n : Int)) := ⟨_, rfl⟩
          rw [← hw5] at HR5 ⊢
          clear hw5 x2 xl f0 f1 fl
          obtain ⟨pg5, cg5, pr5, cr5, h35, _, _⟩ := HR5.out.rec_
          have g45 : w5.cell? ⟨w.heap.size + 1 + 1 + 1, 4, none⟩ = some (nextF (w.heap.size + 1 + 1) w.heap.size) := cell_in h35
          have hlr5 := lt_of_block h35
          clear h35
          focus
            go_wp2_with (go_at_fn 66; go_must (refine (HNx.out w5 _ _ _ _ HR5.out (by omega)).mono ?_))
          rintro e w6 ⟨X6, is6, rfl, hh6⟩
          have HH6 : Hid (Hd w w6 b bs os n c args Q (n + 1 - (n + 1)) X6 is6) := Lib.hid ⟨_, _, _, _, Hq2.out, by omega, by omega, hh6⟩
          clear hh6 g45 hlr5
          go_wp2_with fail
          go_roundg (n + 1 - (n + 1))
          case rel => exact ⟨_, _, rfl, rfl, HH6⟩
          case measure => omega
    · obtain ⟨h1, h2, ⟨pg, cg, pr, cr, h3, h4, h5⟩, h6, h7, h8⟩ := hR
      have v0 : wo.cell? ⟨w.heap.size + 1 + 1 + 1, 1, none⟩ = some (.slice pg G.length cg) := cell_in h3
      have v1 : wo.cell? ⟨w.heap.size + 1 + 1 + 1, 2, none⟩ = some (.slice pr R.length cr) := cell_in h3
      have v2 : wo.cell? ⟨w.heap.size + 1 + 1 + 1, 3, none⟩ = some (.bool h) := cell_in h3
      have vl := lt_of_block h3
      have Hz5 := Lib.hid h8
      have z0 : wo.cell? ⟨w.heap.size + 1, 0, none⟩ = some (.slice none 0 0) := cell_in h8
      have z1 : wo.cell? ⟨w.heap.size + 1, 1, none⟩ = some (.slice none 0 0) := cell_in h8
      have z2 : wo.cell? ⟨w.heap.size + 1, 2, none⟩ = some (.bool false) := cell_in h8
      have y0 : wo.frozen? ⟨w.heap.size + 1, 0, none⟩ = false := free_in h8
      have y1 : wo.frozen? ⟨w.heap.size + 1, 1, none⟩ = false := free_in h8
      have y2 : wo.frozen? ⟨w.heap.size + 1, 2, none⟩ = false := free_in h8
      have ylt := lt_of_block h8
      have HB5 := Lib.hid h7
      have HO4 := Lib.hid (fun u0 u1 u2 => own_set3 (o0 := 0) (o1 := 1) (o2 := 2) (u0 := u0) (u1 := u1) (u2 := u2) h4 h8 (by decide))
      have HO5 := Lib.hid (fun u0 u1 u2 => own_set3 (o0 := 0) (o1 := 1) (o2 := 2) (u0 := u0) (u1 := u1) (u2 := u2) h5 h8 (by decide))
      have Hkn := Lib.hid hk
      clear h1 h2 h3 h4 h5 h6 h7 h8 hk hgs hkn
      obtain ⟨ng, hng⟩ : ∃ ng, G.length = ng := ⟨_, rfl⟩
      obtain ⟨nr, hnr⟩ : ∃ nr, R.length = nr := ⟨_, rfl⟩
      rw [hng] at v0 HO4
      rw [hnr] at v1 HO5
      have Hng := Lib.hid hng
      have Hnr := Lib.hid hnr
      clear hng hnr
      go_wp2_with fail
      have HZ := Lib.hid (heap_set (o := 2) (heap_set (o := 1) (heap_set (o := 0) Hz5.out (.slice pg ng cg)) (.slice pr nr cr)) (.bool h))
      refine bodyPost_ret (results_cell_row3 rfl _ _ (w.heap.size + 1) 70 _ _ _ rfl HZ.out Tryz.underlying70 rfl (by kernel_rfl)) rfl ?_
      exact ⟨.inl ⟨k, G, R, h, _, _, Hq.out, Hkn.out, rfl, by rw [Hng.out]; exact HO4.out _ _ _, by rw [Hnr.out]; exact HO5.out _ _ _⟩, ((HB5.out.setCell (p := ⟨w.heap.size + 1, 0, none⟩) (by simp) _).setCell (p := ⟨w.heap.size + 1, 1, none⟩) (by simp) _).setCell (p := ⟨w.heap.size + 1, 2, none⟩) (by simp) _⟩
end Go.Proofs.YtpfhhaonfbfheaaGreatDoor.fl
