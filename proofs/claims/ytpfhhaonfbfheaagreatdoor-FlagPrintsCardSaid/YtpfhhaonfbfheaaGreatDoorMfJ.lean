/- Laws and contracts on which the statement rests, part J: each text says what it proves, and its conditions. -/
import Derived.Test.YtpfhhaonfbfheaaGreatDoorMfH
import Derived.Test.YtpfhhaonfbfheaaGreatDoorMfI
import Derived.Deep.RegionLaw
import Derived.Laws.CopyRow
import Derived.Laws.CopyOwn
import Derived.Laws.IdiomCopy
import Derived.Laws.MakeOwn
import Derived.Test.YtpfhhaonfbfheaaGreatDoorMfF
import Derived.Lib.SmallJoins
import Derived.Deep.Strs
import Derived.Deep.QuietTactic
import Derived.BigQuiet
/- law 07's sets: a set of definitions, the program's and the document's. Conditions: definitions whose texts and numbers may be; the listed variables hold what the program's text lays. -/
namespace Go.Proofs.YtpfhhaonfbfheaaGreatDoor.fl
open Go.ChangeShapes Go.WideShapes Go.ChangeAt Go.RowKit gl va ls ky en

/-- The same definitions, in whatever order. -/
def Alike (S L : List Ky) : Prop := (∀ y, y ∈ L ↔ y ∈ S) ∧ L.length = S.length
theorem Alike.refl (S : List Ky) : Alike S S := ⟨fun _ => Iff.rfl, rfl⟩
theorem find_is {S : List Ky} {p : Ky → Bool} : (S.find? p).isSome = true ↔ ∃ y ∈ S, p y = true := by
  rw [List.find?_isSome]
theorem Alike.find {S L : List Ky} (h : Alike S L) (t : List UInt8) : (findK L t).isSome = (findK S t).isSome := by
  rw [Bool.eq_iff_iff]
  unfold findK
  rw [find_is, find_is]
  exact ⟨fun ⟨y, hy, hp⟩ => ⟨y, (h.1 y).1 hy, hp⟩, fun ⟨y, hy, hp⟩ => ⟨y, (h.1 y).2 hy, hp⟩⟩
theorem Alike.lett {S L : List Ky} (h : Alike S L) (t : List UInt8) : (lettK L t).isSome = (lettK S t).isSome := by
  unfold lettK
  split
  · rfl
  · rw [Bool.eq_iff_iff, find_is, find_is]
    exact ⟨fun ⟨y, hy, hp⟩ => ⟨y, (h.1 y).1 hy, hp⟩, fun ⟨y, hy, hp⟩ => ⟨y, (h.1 y).2 hy, hp⟩⟩
theorem Alike.addE {S L : List Ky} (h : Alike S L) (x : Ky) : addE L x = addE S x := by
  unfold ky.addE
  rw [h.find, h.lett, h.2]
theorem ins_iff (S : List Ky) (x y : Ky) : y ∈ insK S x ↔ y = x ∨ y ∈ S := by
  unfold insK
  rw [List.mem_append, List.mem_cons]
  conv => rhs; rw [← List.takeWhile_append_dropWhile (p := fun y => ltL y.name x.name) (l := S), List.mem_append]
  constructor
  · rintro (h | h | h)
    · exact .inr (.inl h)
    · exact .inl h
    · exact .inr (.inr h)
  · rintro (h | h | h)
    · exact .inr (.inl h)
    · exact .inl h
    · exact .inr (.inr h)
theorem ins_len (S : List Ky) (x : Ky) : (insK S x).length = S.length + 1 := by
  unfold insK
  rw [List.length_append, List.length_cons]
  conv => rhs; rw [← List.takeWhile_append_dropWhile (p := fun y => ltL y.name x.name) (l := S), List.length_append]
  omega
theorem Alike.add {S L : List Ky} (h : Alike S L) (x : Ky) : Alike (addK S x) (addO L x) := by
  unfold addK addO
  rw [h.addE]
  split
  · refine ⟨fun y => ?_, by rw [ins_len]; simp [h.2]⟩
    rw [ins_iff, List.mem_append, List.mem_singleton, h.1 y]
    exact Or.comm
  · exact h
/-- The program's set and the document's, apart. -/
structure Two (N : Nat) (w : World) (a b : Nat) (S L : List Ky) : Prop where
  sa : SetK N w a S
  rb : RefO N w b L
  ap : ∀ va vb, w.heap[a]? = some (.cells #[va] 85 (0, 0)) → w.heap[b]? = some (.cells #[vb] 29 (0, 0)) → ∀ g, va.ownBlock = some g → vb.ownBlock ≠ some g
theorem one_val {w : World} {b : Nat} {T : TypeId} {v v' : Value} (h : w.heap[b]? = some (.cells #[v] T (0, 0))) (h' : w.heap[b]? = some (.cells #[v'] T (0, 0))) : v = v' := by
  rw [h] at h'
  injection h' with e
  injection e with e _ _
  have e2 := congrArg (fun x => x.getD 0 undef) e
  exact e2
theorem blk_at {M n : Nat} {w : World} {v : Value} {xs : List Value} (h : Blk 62 6 M w v n xs) : ∀ g, v.ownBlock = some g → ∃ cs, w.heap[g]? = some (.cells cs 62 (0, 0)) := fun g hg => by
  rcases h.2 with ⟨rfl, _⟩ | ⟨q, c, cs, rfl, _, _, hb, _⟩
  · cases hg
  · obtain rfl := Option.some.inj hg
    exact ⟨cs, hb⟩
theorem own_at {M n : Nat} {w : World} {v : Value} {xs : List Value} (h : w.ownsRow M 62 6 v n xs) : ∀ g, v.ownBlock = some g → ∃ cs, w.heap[g]? = some (.cells cs 62 (0, 0)) := fun g hg => by
  rcases h.2 with ⟨e, _⟩ | ⟨q, c, cs, e, _, hb, _⟩
  · rw [e] at hg; cases hg
  · rw [e] at hg
    obtain rfl := Option.some.inj hg
    exact ⟨cs, hb⟩
theorem blk_upd {M n : Nat} {w w' : World} {v : Value} {xs : List Value} {T : List Nat} (h : Blk 62 6 M w v n xs) (hu : Upd T w w') (hn : ∀ g, v.ownBlock = some g → g ∉ T) : Blk 62 6 M w' v n xs := by
  refine ⟨h.1, ?_⟩
  rcases h.2 with h1 | ⟨q, c, cs, rfl, h1, h2, hb, h4⟩
  · exact .inl h1
  · exact .inr ⟨q, c, cs, rfl, h1, h2, hu.obj hb (hn q rfl), h4⟩
theorem ne_T {w : World} {a g : Nat} {T T' : TypeId} {c c' : Array Value} (h : w.heap[a]? = some (.cells c T (0, 0))) (h' : w.heap[g]? = some (.cells c' T' (0, 0))) (ht : T ≠ T') : a ≠ g := by
  rintro rfl
  rw [h] at h'
  injection h' with e
  injection e with _ e _
  exact ht e
theorem Two.addA {N : Nat} {w w' : World} {a b : Nat} {S S' L : List Ky} (h : Two N w a b S L) (hS : SetK N w' a S') (hF : Far 85 w w' a) : Two N w' a b S' L := by
  obtain ⟨_, _, _, _, va, hva, hBa⟩ := h.sa
  obtain ⟨p, n, c, h0, h1, h2, h3⟩ := h.rb
  obtain ⟨va', hva', hU, hAt⟩ := hF va hva
  have hbn : b ∉ a :: va.ownBlock.toList := by
    intro hm
    rcases List.mem_cons.1 hm with e | hm
    · exact ne_T h2 hva (by decide) e
    · obtain ⟨cs, hc⟩ := blk_at hBa b (by simpa using hm)
      exact ne_T h2 hc (by decide) rfl
  have h2' := hU.obj h2 hbn
  refine ⟨hS, ⟨p, n, c, h0, h1, h2', hU.row h3 fun g hg hm => ?_⟩, fun v1 v2 e1 e2 g hg hg2 => ?_⟩
  · obtain ⟨cs, hc⟩ := own_at h3 g hg
    rcases List.mem_cons.1 hm with e | hm
    · exact ne_T hc hva (by decide) e
    · exact h.ap _ _ hva h2 g (by simpa using hm) hg
  · obtain rfl := one_val hva' e1
    obtain rfl := one_val h2' e2
    rcases hAt g hg with h4 | h4
    · exact h.ap _ _ hva h2 g h4 hg2
    · obtain ⟨cs, hc⟩ := own_at h3 g hg2
      have := lt_of_block hc
      omega
theorem Two.addB {N : Nat} {w w' : World} {a b : Nat} {S L L' : List Ky} (h : Two N w a b S L) (hR : RefO N w' b L') (hF : Far 29 w w' b) : Two N w' a b S L' := by
  obtain ⟨s1, s2, s3, s4, va, hva, hBa⟩ := h.sa
  obtain ⟨p, n, c, h0, h1, h2, h3⟩ := h.rb
  obtain ⟨vb', hvb', hU, hAt⟩ := hF _ h2
  have han : a ∉ b :: (Value.slice p n c).ownBlock.toList := by
    intro hm
    rcases List.mem_cons.1 hm with e | hm
    · exact ne_T hva h2 (by decide) e
    · obtain ⟨cs, hc⟩ := own_at h3 a (by simpa using hm)
      exact ne_T hva hc (by decide) rfl
  have hva' := hU.obj hva han
  refine ⟨⟨s1, s2, s3, s4, va, hva', blk_upd hBa hU fun g hg hm => ?_⟩, hR, fun v1 v2 e1 e2 g hg hg2 => ?_⟩
  · obtain ⟨cs, hc⟩ := blk_at hBa g hg
    rcases List.mem_cons.1 hm with e | hm
    · exact ne_T hc h2 (by decide) e
    · exact h.ap _ _ hva h2 g hg (by simpa using hm)
  · obtain rfl := one_val hva' e1
    obtain rfl := one_val hvb' e2
    rcases hAt g hg2 with h4 | h4
    · exact h.ap _ _ hva h2 g hg h4
    · obtain ⟨cs, hc⟩ := blk_at hBa g hg
      have := lt_of_block hc
      omega
theorem Two.later {N : Nat} {w w' : World} {a b : Nat} {S L : List Ky} (h : Two N w a b S L) (hb : Below w.heap.size w w') : Two N w' a b S L := by
  obtain ⟨_, _, _, _, va, hva, hBa⟩ := h.sa
  obtain ⟨p, n, c, h0, h1, h2, h3⟩ := h.rb
  refine ⟨h.sa.later hb, h.rb.later hb, fun v1 v2 e1 e2 g hg hg2 => ?_⟩
  obtain rfl := one_val ((hb.block _ (lt_of_block hva)).trans hva) e1
  obtain rfl := one_val ((hb.block _ (lt_of_block h2)).trans h2) e2
  exact h.ap _ _ hva h2 g hg hg2
set_option maxHeartbeats 4000000 in
set_option maxRecDepth 100000 in
theorem sets_any (wh : Int) (hw1 : -9223372036854775808 ≤ wh) (hw2 : wh ≤ 9223372036854775807) (pk : Option Addr) (nk ck : Nat) (l : List Ky) (hnk : l.length = nk) (hnk63 : nk ≤ 9223372036854775807) (hok : ∀ x ∈ l, KyOk x) (w : World) (hK : Kys w (.slice pk nk ck) l) (hV : Vlo w) :
    Calls Tryz.prog 14 #[.int .i64 wh, .slice pk nk ck] w fun e w' => (∃ a b S L, e = .returned (.tuple #[.pointer (some ⟨a, 0, none⟩), .pointer (some ⟨b, 0, none⟩), .bool true]) ∧ SetK w.heap.size w' a S ∧ RefK w' b L ∧ Alike S L) ∧ Below w.heap.size w w' := by
  have HV := Lib.hid fun W (h : Below w.heap.size w W) => hV.below h (Nat.le_refl _)
  have HK := Lib.hid hK
  have Hptr := Lib.hid hK.ptr.2.2
  have hmc := hK.ptr.2.1
  have Hok := Lib.hid hok
  have Hnk := Lib.hid hnk
  have HP := Lib.hid (pick2_any wh hw1 hw2 w)
  clear hK hok hnk hV
  go_enter Tryz.func14, Tryz.ntmps14
  go_wp2_with fail
  refine HP.out.mono ?_
  rintro e w1 ⟨⟨r, rfl, hr0, hr1⟩, rfl⟩
  clear HP
  by_cases h0 : r = 0
  · have q0 : (r == 0) = true := by rw [h0]; rfl
    clear hr0 hr1 h0
    go_wp2_with fail
    refine (Standard_any w1 (HV.out _ (Below.refl _ _))).mono ?_
    rintro e w2 ⟨⟨a, rfl, hS2⟩, hb2⟩
    have HS2 := Lib.hid hS2
    have Hb2 := Lib.hid hb2
    clear hS2 hb2
    go_wp2_with fail
    refine (refStandard_any w2).mono ?_
    rintro e w3 ⟨⟨b, rfl, hR3⟩, hb3⟩
    have HF : Hid (SetK w1.heap.size w3 a stdK ∧ RefK w3 b stdK ∧ Below w1.heap.size w1 w3) := Lib.hid ⟨HS2.out.later hb3, hR3, ky.then_bel Hb2.out hb3⟩
    clear hR3 hb3 HS2 Hb2
    go_wp2_with fail
    go_ret3
    exact ⟨⟨a, b, stdK, stdK, rfl, HF.out.1, HF.out.2.1, Alike.refl _⟩, HF.out.2.2⟩
  · have q0 : (r == 0) = false := by simp only [beq_eq_false_iff_ne]; exact h0
    clear hr0 hr1 h0
    go_wp2_with fail
    refine (New_any w1).mono ?_
    rintro e w2 ⟨rfl, hS2, hb2⟩
    obtain ⟨a, ha⟩ : ∃ a, a = w1.heap.size := ⟨_, rfl⟩
    rw [← ha]
    have HS2 : Hid (SetK w1.heap.size w2 a []) := Lib.hid (by rw [ha]; exact hS2)
    have Hb2 := Lib.hid hb2
    clear hS2 hb2 ha
    go_wp2_with fail
    refine (refNew_any w2).mono ?_
    rintro e w3 ⟨rfl, hR3, hb3⟩
    obtain ⟨b, hb⟩ : ∃ b, b = w2.heap.size := ⟨_, rfl⟩
    rw [← hb]
    have hz12 := Hb2.out.size
    have HJ : Hid (Two w1.heap.size w3 a b [] []) := Lib.hid ⟨HS2.out.later hb3, by
      rw [hb]
      obtain ⟨p, n, c, h0, h1, h2, h3⟩ := hR3
      exact ⟨p, n, c, h0, by omega, h2, h3.1, h3.2.imp id (fun ⟨g, cap, cur, e1, e2, e3⟩ => ⟨g, cap, cur, e1, by omega, e3⟩)⟩, fun va vb e1 e2 g hg hg2 => by
      obtain ⟨p, n, c, h0, h1, h2, h3⟩ := hR3
      rw [hb] at e2
      obtain rfl := one_val h2 e2
      obtain rfl : n = 0 := h0
      rcases h3.2 with ⟨e, _⟩ | ⟨q, cap, cur, e, hq, hk, _⟩
      · rw [e] at hg2; cases hg2
      · rw [e] at hg2
        obtain rfl : q = g := Option.some.inj hg2
        obtain ⟨_, _, _, _, va', hva', hBa⟩ := HS2.out
        obtain rfl := one_val ((hb3.block _ (lt_of_block hva')).trans hva') e1
        obtain ⟨cs, hc⟩ := blk_at hBa q hg
        have := lt_of_block hc
        omega⟩
    have HB3 := Lib.hid (ky.then_bel Hb2.out hb3)
    clear hR3 hb3 HS2 hb Hb2 hz12
    go_wp2_with fail
    go_loopw [11] (fun vi wr => ∃ (k : Nat) (S L : List Ky), k ≤ nk ∧ vi = .int .i64 k ∧ Hid (Two w1.heap.size wr a b S L) ∧ Hid (Alike S L) ∧ Hid (Below w1.heap.size w1 wr)) (fun vi _ => nk - (intOf vi).toNat)
    case atStart => exact ⟨0, [], [], by omega, rfl, HJ, Lib.hid (Alike.refl _), HB3⟩
    case round =>
      clear HJ HB3
      obtain ⟨wo, rfl⟩ : ∃ wo, wo = wr := ⟨_, rfl⟩
      obtain ⟨k, S, L, hk, rfl, HT, HA, Hb⟩ := hrel
      have hzo : w1.heap.size ≤ wo.heap.size := Hb.out.size
      have HFin : Hid ((∃ a' b' S' L', Ending.returned (.tuple #[.pointer (some ⟨a, 0, none⟩), .pointer (some ⟨b, 0, none⟩), .bool true]) = .returned (.tuple #[.pointer (some ⟨a', 0, none⟩), .pointer (some ⟨b', 0, none⟩), .bool true]) ∧ SetK w1.heap.size wo a' S' ∧ RefK wo b' L' ∧ Alike S' L') ∧ Below w1.heap.size w1 wo) := Lib.hid ⟨⟨a, b, S, L, rfl, HT.out.sa, HT.out.rb.ref, HA.out⟩, Hb.out⟩
      by_cases hlt : k < nk
      · have q1 : decide ((k : Int) < (nk : Int)) = true := by rw [decide_eq_true_iff]; omega
        have q2 : decide (k < nk) = true := by rw [decide_eq_true_iff]; omega
        by_cases h70 : k < 70
        · have q3 : decide ((k : Int) < 70) = true := by rw [decide_eq_true_iff]; omega
          have q4 : decide (k < 70) = true := by rw [decide_eq_true_iff]; omega
          obtain ⟨x, hx⟩ : ∃ x, l[k]? = some x := ⟨_, List.getElem?_eq_getElem (by rw [Hnk.out]; exact hlt)⟩
          obtain ⟨gk, ok, rfl, hgk⟩ := Hptr.out (by omega)
          obtain ⟨c0, c1, c2, c3, c4, c5⟩ := ky_cells (HK.out.later Hb.out) hx
          have hgo : gk < wo.heap.size := by omega
          have hox := Hok.out x (List.mem_of_getElem? hx)
          have HAd := Lib.hid (Add_far w1.heap.size a S x wo HT.out.sa hox hzo (HV.out _ Hb.out))
          have HRx := Lib.hid fun W hR hM hV hl => refAdd_any w1.heap.size b L x W hR hox hM hV hl
          have HAl := Lib.hid (HA.out.add x)
          have HCs := Lib.hid fun W (hbW : Below w1.heap.size w1 W) => ky_cells (HK.out.later hbW) hx
          have hLl : Hid (L.length ≤ 4096) := Lib.hid (by rw [HA.out.2]; have := HT.out.sa.len; omega)
          rw [HA.out.addE] at HRx
          have hki : (k : Int) < (nk : Int) := by omega
          have hk0 : (0 : Int) ≤ (k : Int) := by omega
          unfold kyV at HRx
          generalize addE S x = er at *
          generalize addK S x = S2 at *
          generalize addO L x = L2 at *
          clear hx hox
          generalize B x.name = nx at *
          generalize B x.dflt = dx at *
          generalize B x.letter = lx at *
          generalize x.kind = kx at *
          generalize x.least = ex at *
          generalize x.most = ox at *
          go_wp2_with fail
          refine HAd.out.mono ?_
          rintro e w4 ⟨rfl, hS4, hb4, hf4⟩
          have HT4 := Lib.hid (HT.out.addA hS4 hf4)
          have Hb4 := Lib.hid (Hb.out.trans hb4)
          have hz4 := Hb4.out.size
          obtain ⟨c0, c1, c2, c3, c4, c5⟩ := HCs.out _ Hb4.out
          have hgo4 : gk < w4.heap.size := by omega
          have HRy := Lib.hid (HRx.out w4 HT4.out.rb hz4 (HV.out _ Hb4.out) hLl.out)
          clear hS4 hb4 hf4 HRx HAd
          go_wp2_with fail
          refine HRy.out.mono ?_
          rintro e w5 ⟨rfl, hR5, hb5, hf5⟩
          have HT5 := Lib.hid (HT4.out.addB hR5 hf5)
          have Hb5 := Lib.hid (Hb4.out.trans hb5)
          clear hR5 hb5 hf5 HRy c0 c1 c2 c3 c4 c5
          go_wp2_with fail
          go_roundw
          case rel => exact ⟨k + 1, S2, L2, by omega, by go_num, HT5, HAl, Hb5⟩
          case measure => simp [intOf]; omega
        · have q3 : decide ((k : Int) < 70) = false := by rw [decide_eq_false_iff_not]; omega
          have q4 : decide (k < 70) = false := by rw [decide_eq_false_iff_not]; omega
          go_wp2_with fail
          go_ret3
          exact HFin.out
      · have q1 : decide ((k : Int) < (nk : Int)) = false := by rw [decide_eq_false_iff_not]; omega
        have q2 : decide (k < nk) = false := by rw [decide_eq_false_iff_not]; omega
        go_wp2_with fail
        go_ret3
        exact HFin.out
end Go.Proofs.YtpfhhaonfbfheaaGreatDoor.fl
/- Package flag: Print; the document's Print. Conditions: texts of at most 2147483647 bytes. -/
namespace Go.Proofs.YtpfhhaonfbfheaaGreatDoor.fl
open Go.ChangeShapes Go.WideShapes Go.ChangeAt Go.RowKit gl va ls ky en

def lineL (g : Gw) : List UInt8 := [45, 45] ++ g.name ++ [61] ++ g.text
def okG (S : List Ky) (l : List Gw) : Bool := l.all fun g => (findK S g.name).isSome
def outG (S : List Ky) (l : List Gw) : List (List UInt8) := if okG S l = true then l.map lineL else []
def erG (S : List Ky) (l : List Gw) : Int := if okG S l = true then 0 else 1
theorem okG_alike {S L : List Ky} (h : Alike S L) (l : List Gw) : okG L l = okG S l := by
  unfold okG
  congr 1
  funext g
  exact h.find g.name
def Gsz (l : List Gw) : Prop := ∀ g ∈ l, g.name.length ≤ 2147483647 ∧ g.text.length ≤ 2147483647
theorem okG_bad {S : List Ky} {l : List Gw} {j : Nat} {x : Gw} (hx : l[j]? = some x) (h : (findK S x.name).isSome = false) : okG S l = false := by
  unfold okG
  rw [List.all_eq_false]
  exact ⟨x, List.mem_of_getElem? hx, by rw [h]; decide⟩
theorem okG_take {S : List Ky} {l : List Gw} {j : Nat} {x : Gw} (hx : l[j]? = some x) (h : (findK S x.name).isSome = true) (ht : okG S (l.take j) = true) : okG S (l.take (j + 1)) = true := by
  unfold okG at ht ⊢
  rw [List.take_add_one, hx]
  simp [ht, h]
theorem line_row {l : List Gw} {j : Nat} {x : Gw} (hx : l[j]? = some x) : (l.take (j + 1)).map lineL = (l.take j).map lineL ++ [lineL x] := by
  rw [List.take_add_one, hx]
  simp
theorem line_b (x : Gw) : (⟨#[45, 45]⟩ : ByteArray) ++ B x.name ++ (⟨#[61]⟩ : ByteArray) ++ B x.text = B (lineL x) := by
  apply ByteArray.ext
  apply Array.toList_inj.1
  unfold lineL
  simp [B]
set_option maxHeartbeats 4000000 in
set_option maxRecDepth 100000 in
theorem prints_any (M b : Nat) (S : List Ky) (p : Option Addr) (n c : Nat) (l : List Gw) (hl : l.length = n) (hn : n ≤ 2147483647) (hz : Gsz l) (w : World) (hS : SetK M w b S) (hG : Gws w (.slice p n c) l) :
    Calls Tryz.prog 15 #[.pointer (some ⟨b, 0, none⟩), .slice p n c] w fun e w' => (∃ v, e = .returned (.tuple #[v, .int .i64 (erG S l)]) ∧ NewSts w.heap.size w' v (outG S l)) ∧ Below w.heap.size w w' := by
  obtain ⟨i1, si, sz0, sz1, sz2⟩ := info_parts infoSt
  have HG := Lib.hid hG
  have Hptr := Lib.hid hG.ptr.2.2
  have Hl := Lib.hid hl
  have Hz := Lib.hid hz
  have HF := Lib.hid fun (W : World) (t : List UInt8) (hb : Below w.heap.size w W) => Find_any M b S t W (hS.later hb)
  clear hG hl hz hS
  go_enter Tryz.func15, Tryz.ntmps15
  go_wp2_with fail
  go_loopw [6, 15] (fun vo vi wr => ∃ (j co : Nat) (po : Option Addr), j ≤ n ∧ vi = .int .i64 j ∧ vo = .slice po j co ∧ Hid (wr.ownsRow w.heap.size 9 1 (.slice po j co) j (rw.flat stC ((l.take j).map lineL))) ∧ Hid (okG S (l.take j) = true) ∧ Hid (Below w.heap.size w wr)) (fun _ vi _ => n - (intOf vi).toNat)
  case atStart => exact ⟨0, 0, none, by omega, rfl, rfl, Lib.hid (World.ownsRow_nil _ _ _ _), Lib.hid rfl, Lib.hid (Below.refl _ _)⟩
  case round =>
    obtain ⟨wo, rfl⟩ : ∃ wo, wo = wr := ⟨_, rfl⟩
    obtain ⟨j, co, po, hj, rfl, rfl, HO, Hok, Hb⟩ := hrel
    have hzo : w.heap.size ≤ wo.heap.size := Hb.out.size
    by_cases hlt : j < n
    · obtain ⟨x, hx⟩ : ∃ x, l[j]? = some x := ⟨_, List.getElem?_eq_getElem (by rw [Hl.out]; exact hlt)⟩
      obtain ⟨ga, oa, rfl, hga⟩ := Hptr.out (by omega)
      obtain ⟨c0, c1, c2⟩ := gw_cells (HG.out.later Hb.out) hx
      have hgo : ga < wo.heap.size := by omega
      have hji : (j : Int) < (n : Int) := by omega
      have hj0 : (0 : Int) ≤ (j : Int) := by omega
      obtain ⟨z0, z1⟩ := Hz.out x (List.mem_of_getElem? hx)
      rw [← B_size] at z0 z1
      have Hx := Lib.hid hx
      have Hln := Lib.hid (line_b x)
      have HFx := Lib.hid fun (W : World) (hb : Below w.heap.size w W) => HF.out W x.name hb
      rw [foundE] at HFx
      clear hx
      generalize hfo : findK S x.name = fo at *
      have HFo : Hid ((findK S x.name).isSome = fo.isSome) := Lib.hid (by rw [hfo])
      clear hfo
      generalize B (fo.getD zK).name = f0 at *
      generalize B (fo.getD zK).dflt = f2 at *
      generalize B (fo.getD zK).letter = f5 at *
      generalize (fo.getD zK).kind = f1 at *
      generalize (fo.getD zK).least = f3 at *
      generalize (fo.getD zK).most = f4 at *
      obtain ⟨nb, hnb⟩ : ∃ nb, nb = B x.name := ⟨_, rfl⟩
      obtain ⟨tb, htb⟩ : ∃ tb, tb = B x.text := ⟨_, rfl⟩
      rw [← hnb] at c0 z0 Hln HFx
      rw [← htb] at c1 z1 Hln
      clear hnb htb
      generalize x.pos = ps at *
      go_upto_region 7 with fail
      refine go_name (fun wA hA => ?_)
      have kA : wA.heap[wo.heap.size]? = some (.cells #[.string nb, .string tb, .int .i64 ps] 35 (0, 0)) := by rw [hA]; exact heap_alloc_new wo _
      have hbA : Below wo.heap.size wo wA := by rw [hA]; exact (Below.refl _ _).alloc (Nat.le_refl _) _
      have HbA := Lib.hid (en.then_bel Hb.out hzo hbA)
      have a0 : wA.cell? ⟨wo.heap.size, 0, none⟩ = some (.string nb) := cell_in kA
      have hlA := lt_of_block kA
      have HkA := Lib.hid kA
      have HOA := Lib.hid (ls.own_kept HO.out hbA)
      have HFy := Lib.hid (HFx.out wA HbA.out)
      clear hA kA hbA c0 c1 c2 HFx HO
      go_wp2_with fail
      refine HFy.out.mono ?_
      rintro e w2 ⟨rfl, hb2⟩
      have Hk2 := Lib.hid ((hb2.block _ hlA).trans HkA.out)
      have HO2 := Lib.hid (ls.own_kept HOA.out hb2)
      have hzA := HbA.out.size
      have Hb2 := Lib.hid (en.then_bel HbA.out hzA hb2)
      clear hb2 a0 hlA HFy HOA HkA
      go_upto_region 8 with fail
      refine go_name (fun wB hB => ?_)
      have hbB : Below w2.heap.size w2 wB := by rw [hB]; exact (Below.refl _ _).alloc (Nat.le_refl _) _
      have HO3 := Lib.hid (ls.own_kept HO2.out hbB)
      have hz2 := Hb2.out.size
      have Hb3 := Lib.hid (en.then_bel Hb2.out hz2 hbB)
      have k3 := (hbB.block _ (lt_of_block Hk2.out)).trans Hk2.out
      have b0 : wB.cell? ⟨wo.heap.size, 0, none⟩ = some (.string nb) := cell_in k3
      have b1 : wB.cell? ⟨wo.heap.size, 1, none⟩ = some (.string tb) := cell_in k3
      have hlB := lt_of_block k3
      have hz3 : w.heap.size ≤ wB.heap.size := Hb3.out.size
      clear hB hbB k3 Hk2 HO2
      cases fo with
      | none =>
        have hbad : okG S l = false := okG_bad Hx.out (by rw [HFo.out]; rfl)
        have HFin : Hid (erG S l = 1 ∧ outG S l = []) := Lib.hid ⟨by unfold erG; rw [if_neg (by rw [hbad]; decide)], by unfold outG; rw [if_neg (by rw [hbad]; decide)]⟩
        clear hbad
        go_wp2_with fail
        go_ret2
        exact ⟨⟨_, by rw [HFin.out.1]; rfl, by rw [HFin.out.2]; exact .inl ⟨rfl, rfl⟩⟩, Hb3.out⟩
      | some y =>
        have Hok2 := Lib.hid (okG_take Hx.out (by rw [HFo.out]; rfl) Hok.out)
        have hsz1 : (⟨#[45, 45]⟩ : ByteArray).size = 2 := rfl
        have hsz2 : (⟨#[61]⟩ : ByteArray).size = 1 := rfl
        focus
          go_wp2_with (at_builtin; go_must (refine wpList_append_k rfl _ _ 38 rfl 9 i1 _ 1 16 Tryz.underlying38 si sz0 sz1 sz2 rfl (by omega) _ (by rfl) (by rfl) w.heap.size _ j _ (by rfl) HO3.out (by simp [Value.oneCell']) (by omega) (by omega) hz3 ?_))
        intro g' cap' w5 hown5 hgrow5 hat5 hz5 hlt5
        have HO5 : Hid (w5.ownsRow w.heap.size 9 1 (.slice (some ⟨g', 0, none⟩) (j + 1) cap') (j + 1) (rw.flat stC ((l.take (j + 1)).map lineL))) := Lib.hid (by
          rw [line_row Hx.out, rw.flat_snoc]
          show w5.ownsRow w.heap.size 9 1 _ (j + 1) (_ ++ [.string (B (lineL x))])
          rw [← Hln.out]
          first | exact hown5 | (rw [List.map_take]; exact hown5))
        have Hb5 := Lib.hid (below_grown_own Hb3.out HO3.out hgrow5 hz3)
        clear hown5 hgrow5 hat5 hz5 hlt5 b0 b1 hlB
        go_wp2_with fail
        go_roundw
        case rel => exact ⟨j + 1, cap', some ⟨g', 0, none⟩, by omega, by go_num, rfl, HO5, Hok2, Hb5⟩
        case measure => simp [intOf]; omega
    · obtain rfl : j = n := by omega
      have htk : l.take j = l := List.take_of_length_le (by rw [Hl.out]; exact Nat.le_refl _)
      have HOl := HO.out
      have hokl := Hok.out
      rw [htk] at HOl hokl
      have HFin : Hid (erG S l = 0 ∧ NewSts w.heap.size wo (.slice po j co) (outG S l)) := Lib.hid ⟨by unfold erG; rw [if_pos hokl], by
        unfold outG
        rw [if_pos hokl]
        exact rw.own_new stC_len (by decide) HOl⟩
      clear htk HOl hokl
      go_wp2_with fail
      go_ret2
      exact ⟨⟨_, by rw [HFin.out.1]; rfl, HFin.out.2⟩, Hb.out⟩
set_option maxHeartbeats 4000000 in
set_option maxRecDepth 100000 in
theorem refPrints_any (b : Nat) (S : List Ky) (hSl : S.length ≤ 4096) (p : Option Addr) (n c : Nat) (l : List Gw) (hl : l.length = n) (hn : n ≤ 2147483647) (hz : Gsz l) (w : World) (hS : RefK w b S) (hG : Gws w (.slice p n c) l) :
    Calls Tryz.prog 16 #[.pointer (some ⟨b, 0, none⟩), .slice p n c] w fun e w' => (∃ v, e = .returned (.tuple #[v, .int .i64 (erG S l)]) ∧ NewSts w.heap.size w' v (outG S l)) ∧ Below w.heap.size w w' := by
  obtain ⟨i1, si, sz0, sz1, sz2⟩ := info_parts infoSt
  have HG := Lib.hid hG
  have Hptr := Lib.hid hG.ptr.2.2
  have Hl := Lib.hid hl
  have Hz := Lib.hid hz
  have HF := Lib.hid fun (W : World) (t : List UInt8) (hb : Below w.heap.size w W) => refFind_any b S t W (hS.later hb) (by omega)
  clear hG hl hz hS
  go_enter Tryz.func16, Tryz.ntmps16
  go_wp2_with fail
  go_loopw [6, 7] (fun vo vi wr => ∃ (j co : Nat) (po : Option Addr), j ≤ n ∧ vi = .int .i64 j ∧ vo = .slice po j co ∧ Hid (wr.ownsRow w.heap.size 9 1 (.slice po j co) j (rw.flat stC ((l.take j).map lineL))) ∧ Hid (okG S (l.take j) = true) ∧ Hid (Below w.heap.size w wr)) (fun _ vi _ => n - (intOf vi).toNat)
  case atStart => exact ⟨0, 0, none, by omega, rfl, rfl, Lib.hid (World.ownsRow_nil _ _ _ _), Lib.hid rfl, Lib.hid (Below.refl _ _)⟩
  case round =>
    obtain ⟨wo, rfl⟩ : ∃ wo, wo = wr := ⟨_, rfl⟩
    obtain ⟨j, co, po, hj, rfl, rfl, HO, Hok, Hb⟩ := hrel
    have hzo : w.heap.size ≤ wo.heap.size := Hb.out.size
    by_cases hlt : j < n
    · obtain ⟨x, hx⟩ : ∃ x, l[j]? = some x := ⟨_, List.getElem?_eq_getElem (by rw [Hl.out]; exact hlt)⟩
      obtain ⟨ga, oa, rfl, hga⟩ := Hptr.out (by omega)
      obtain ⟨c0, c1, c2⟩ := gw_cells (HG.out.later Hb.out) hx
      have hgo : ga < wo.heap.size := by omega
      have hji : (j : Int) < (n : Int) := by omega
      have hj0 : (0 : Int) ≤ (j : Int) := by omega
      obtain ⟨z0, z1⟩ := Hz.out x (List.mem_of_getElem? hx)
      rw [← B_size] at z0 z1
      have Hx := Lib.hid hx
      have Hln := Lib.hid (line_b x)
      have HFx := Lib.hid fun (W : World) (hb : Below w.heap.size w W) => HF.out W x.name hb
      rw [foundE] at HFx
      clear hx
      generalize hfo : findK S x.name = fo at *
      have HFo : Hid ((findK S x.name).isSome = fo.isSome) := Lib.hid (by rw [hfo])
      clear hfo
      generalize B (fo.getD zK).name = f0 at *
      generalize B (fo.getD zK).dflt = f2 at *
      generalize B (fo.getD zK).letter = f5 at *
      generalize (fo.getD zK).kind = f1 at *
      generalize (fo.getD zK).least = f3 at *
      generalize (fo.getD zK).most = f4 at *
      have HCs := Lib.hid fun W (hbW : Below w.heap.size w W) => gw_cells (HG.out.later hbW) Hx.out
      obtain ⟨nb, hnb⟩ : ∃ nb, nb = B x.name := ⟨_, rfl⟩
      obtain ⟨tb, htb⟩ : ∃ tb, tb = B x.text := ⟨_, rfl⟩
      rw [← hnb] at c0 z0 Hln HFx HCs
      rw [← htb] at c1 z1 Hln HCs
      clear hnb htb
      have HFy := Lib.hid (HFx.out wo Hb.out)
      clear HFx
      go_wp2_with fail
      refine HFy.out.mono ?_
      rintro e w2 ⟨rfl, hb2⟩
      have HO2 := Lib.hid (ls.own_kept HO.out hb2)
      have Hb2 := Lib.hid (en.then_bel Hb.out hzo hb2)
      clear hb2 c0 c1 c2 HFy HO
      go_upto_region 8 with fail
      refine go_name (fun wB hB => ?_)
      have hbB : Below w2.heap.size w2 wB := by rw [hB]; exact (Below.refl _ _).alloc (Nat.le_refl _) _
      have HO3 := Lib.hid (ls.own_kept HO2.out hbB)
      have hz2 := Hb2.out.size
      have Hb3 := Lib.hid (en.then_bel Hb2.out hz2 hbB)
      obtain ⟨b0, b1, _⟩ := HCs.out _ Hb3.out
      have hz3 : w.heap.size ≤ wB.heap.size := Hb3.out.size
      have hlB : ga < wB.heap.size := by omega
      clear hB hbB HO2
      cases fo with
      | none =>
        have hbad : okG S l = false := okG_bad Hx.out (by rw [HFo.out]; rfl)
        have HFin : Hid (erG S l = 1 ∧ outG S l = []) := Lib.hid ⟨by unfold erG; rw [if_neg (by rw [hbad]; decide)], by unfold outG; rw [if_neg (by rw [hbad]; decide)]⟩
        clear hbad
        go_wp2_with fail
        go_ret2
        exact ⟨⟨_, by rw [HFin.out.1]; rfl, by rw [HFin.out.2]; exact .inl ⟨rfl, rfl⟩⟩, Hb3.out⟩
      | some y =>
        have Hok2 := Lib.hid (okG_take Hx.out (by rw [HFo.out]; rfl) Hok.out)
        have hsz1 : (⟨#[45, 45]⟩ : ByteArray).size = 2 := rfl
        have hsz2 : (⟨#[61]⟩ : ByteArray).size = 1 := rfl
        have hs1 : ¬ (9223372036854775807 < 2 + nb.size) := by omega
        have hs2 : ¬ (9223372036854775807 < 2 + nb.size + 1) := by omega
        have hs3 : ¬ (9223372036854775807 < 2 + nb.size + 1 + tb.size) := by omega
        go_wp2_with fail
        go_region_law (first
          | (refine step_append_k (by rfl) _ _ 38 (by rfl) 9 i1 _ 1 16 Tryz.underlying38 si sz0 sz1 sz2 rfl (by omega) _ (by rfl) (by rfl) w.heap.size _ j _ (by rfl) HO3.out (by simp [Value.oneCell']) (by omega) (by omega) hz3 ?_; intro g' cap' w5 hown5 hgrow5 _ _ _; have HO4 := Lib.hid hown5; have Hg4 := Lib.hid hgrow5; clear hown5 hgrow5)
          | (refine step_append_k0 (by rfl) _ _ 38 (by rfl) 9 i1 _ 1 16 Tryz.underlying38 si sz0 sz1 sz2 rfl (by omega) _ (by rfl) (by rfl) w.heap.size _ j _ (by rfl) HO3.out (by simp [Value.oneCell']) (by omega) (by omega) hz3 ?_; intro g' cap' w5 hown5 hgrow5 _ _ _; have HO4 := Lib.hid hown5; have Hg4 := Lib.hid hgrow5; clear hown5 hgrow5)
          | fail)
        all_goals
          have HO5 : Hid (w5.ownsRow w.heap.size 9 1 (.slice (some ⟨g', 0, none⟩) (j + 1) cap') (j + 1) (rw.flat stC ((l.take (j + 1)).map lineL))) := Lib.hid (by
            rw [line_row Hx.out, rw.flat_snoc]
            show w5.ownsRow w.heap.size 9 1 _ (j + 1) (_ ++ [.string (B (lineL x))])
            rw [← Hln.out]
            first | exact HO4.out | (rw [List.map_take]; exact HO4.out))
          have Hb5 := Lib.hid (below_grown_own Hb3.out HO3.out Hg4.out hz3)
          clear HO4 Hg4 b0 b1 hlB
          go_wp2_with fail
          go_roundw
          case rel => exact ⟨j + 1, cap', some ⟨g', 0, none⟩, by omega, by go_num, rfl, HO5, Hok2, Hb5⟩
          case measure => simp [intOf]; omega
    · obtain rfl : j = n := by omega
      have htk : l.take j = l := List.take_of_length_le (by rw [Hl.out]; exact Nat.le_refl _)
      have HOl := HO.out
      have hokl := Hok.out
      rw [htk] at HOl hokl
      have HFin : Hid (erG S l = 0 ∧ NewSts w.heap.size wo (.slice po j co) (outG S l)) := Lib.hid ⟨by unfold erG; rw [if_pos hokl], by
        unfold outG
        rw [if_pos hokl]
        exact rw.own_new stC_len (by decide) HOl⟩
      clear htk HOl hokl
      go_wp2_with fail
      go_ret2
      exact ⟨⟨_, by rw [HFin.out.1]; rfl, HFin.out.2⟩, Hb.out⟩
end Go.Proofs.YtpfhhaonfbfheaaGreatDoor.fl
/- law 07's awake: the calls that stand there. Conditions: the listed variables hold what the program's text lays. -/
namespace Go.Proofs.YtpfhhaonfbfheaaGreatDoor.fl
open Go.ChangeShapes Go.WideShapes Go.ChangeAt Go.RowKit gl va ls ky en

def t9 : List UInt8 := [57, 48, 48, 50]
def tQ : List UInt8 := [45, 113]
def A1 : List (List UInt8) := [tP, t9, tX, tD, tH, tE, tQ]
def A2 : List (List UInt8) := [tX, tP]
def tT : List UInt8 := [116, 114, 117, 101]
def Q1 : St := fun k G R h => (k = 0 ∧ G = [] ∧ R = [] ∧ h = false) ∨ (k = 2 ∧ G = [⟨portK.name, t9, 0⟩] ∧ R = [] ∧ h = false) ∨ (k = 3 ∧ G = [⟨portK.name, t9, 0⟩] ∧ R = [tX] ∧ h = false) ∨
  (k = 4 ∧ G = [⟨portK.name, t9, 0⟩, ⟨dryK.name, tT, 3⟩] ∧ R = [tX] ∧ h = false) ∨ (k = 5 ∧ G = [⟨portK.name, t9, 0⟩, ⟨dryK.name, tT, 3⟩] ∧ R = [tX] ∧ h = true) ∨ (k = 8 ∧ G = [⟨portK.name, t9, 0⟩, ⟨dryK.name, tT, 3⟩] ∧ R = [tX, tQ] ∧ h = true)
theorem steps1 : Steps A1 7 Q1 (fun _ => False) := by
  intro k G R h x hq hk hx
  rcases hq with ⟨rfl, rfl, rfl, rfl⟩ | ⟨rfl, rfl, rfl, rfl⟩ | ⟨rfl, rfl, rfl, rfl⟩ | ⟨rfl, rfl, rfl, rfl⟩ | ⟨rfl, rfl, rfl, rfl⟩ | ⟨rfl, rfl, rfl, rfl⟩
  · obtain rfl : tP = x := Option.some.inj hx
    exact ⟨by decide, by decide, .inl ⟨rfl, t9, rfl, by decide, .inr (.inl ⟨rfl, rfl, rfl, rfl⟩)⟩⟩
  · obtain rfl : tX = x := Option.some.inj hx
    exact ⟨by decide, by decide, .inr (.inr (.inl ⟨rfl, .inr (.inr (.inl ⟨rfl, rfl, rfl, rfl⟩))⟩))⟩
  · obtain rfl : tD = x := Option.some.inj hx
    exact ⟨by decide, by decide, .inr (.inr (.inr (.inl ⟨rfl, .inr (.inr (.inr (.inl ⟨rfl, rfl, rfl, rfl⟩)))⟩)))⟩
  · obtain rfl : tH = x := Option.some.inj hx
    exact ⟨by decide, by decide, .inr (.inr (.inr (.inr (.inl ⟨rfl, .inr (.inr (.inr (.inr (.inl ⟨rfl, rfl, rfl, rfl⟩))))⟩))))⟩
  · obtain rfl : tE = x := Option.some.inj hx
    exact ⟨by decide, by decide, .inr (.inr (.inr (.inr (.inr ⟨rfl, by decide, .inr (.inr (.inr (.inr (.inr ⟨rfl, rfl, rfl, rfl⟩))))⟩))))⟩
  · omega
def Q2 : St := fun k G R h => (k = 0 ∧ G = [] ∧ R = [] ∧ h = false) ∨ (k = 1 ∧ G = [] ∧ R = [tX] ∧ h = false)
theorem steps2 : Steps A2 2 Q2 (fun k => k = 1) := by
  intro k G R h x hq hk hx
  rcases hq with ⟨rfl, rfl, rfl, rfl⟩ | ⟨rfl, rfl, rfl, rfl⟩
  · obtain rfl : tX = x := Option.some.inj hx
    exact ⟨by decide, by decide, .inr (.inr (.inl ⟨rfl, .inr ⟨rfl, rfl, rfl, rfl⟩⟩))⟩
  · obtain rfl : tP = x := Option.some.inj hx
    exact ⟨by decide, by decide, .inr (.inl ⟨rfl, by decide, rfl⟩)⟩
def G1 : List Gv := [⟨portK.name, t9, 0⟩, ⟨dryK.name, tT, 3⟩]
def R1 : List (List UInt8) := [tX, tQ]
theorem parse_1 {w : World} {b g : Nat} {M : Nat} (hS : SetK M w b stdK) (hGl : Glo w) (hA : Sts w (.slice (some ⟨g, 0, none⟩) 7 7) A1) :
    Calls Tryz.prog 44 #[.pointer (some ⟨b, 0, none⟩), .slice (some ⟨g, 0, none⟩) 7 7] w fun e w' => (∃ pg cg pr cr, e = .returned (.tuple #[.agg #[.slice pg 2 cg, .slice pr 2 cr, .bool true], .int .i64 0, .int .i64 0]) ∧ NewGvs w.heap.size w' (.slice pg 2 cg) G1 ∧ NewSts w.heap.size w' (.slice pr 2 cr) R1) ∧ Below w.heap.size w w' := by
  refine (Parse_any hS hGl A1 hA rfl (by decide) (Nat.le_refl _) (by decide) Q1 (fun _ => False) (.inl ⟨rfl, rfl, rfl, rfl⟩) steps1).mono ?_
  rintro e w' ⟨h, hb⟩
  refine ⟨?_, hb⟩
  rcases h with ⟨k, G, R, h, vg, vr, hq, hk, rfl, h1, h2⟩ | ⟨_, hf, _⟩
  · have hG : G = G1 ∧ R = R1 ∧ h = true := by
      rcases hq with ⟨rfl, _⟩ | ⟨rfl, _⟩ | ⟨rfl, _⟩ | ⟨rfl, _⟩ | ⟨rfl, _⟩ | ⟨rfl, h1, h2, h3⟩
      · omega
      · omega
      · omega
      · omega
      · omega
      · exact ⟨h1, h2, h3⟩
    obtain ⟨rfl, rfl, rfl⟩ := hG
    have n1 := rw.own_new gvC_len (by decide) h1
    have n2 := rw.own_new stC_len (by decide) h2
    obtain ⟨pg, cg, rfl⟩ := (Blk.of_own h1).form
    obtain ⟨pr, cr, rfl⟩ := (Blk.of_own h2).form
    exact ⟨pg, cg, pr, cr, rfl, n1, n2⟩
  · exact hf.elim
theorem parse_2 {w : World} {b g : Nat} {M : Nat} (hS : SetK M w b stdK) (hGl : Glo w) (hA : Sts w (.slice (some ⟨g, 0, none⟩) 2 2) A2) :
    Calls Tryz.prog 44 #[.pointer (some ⟨b, 0, none⟩), .slice (some ⟨g, 0, none⟩) 2 2] w fun e w' => e = .returned (.tuple #[.agg #[.slice none 0 0, .slice none 0 0, .bool false], .int .i64 72, .int .i64 1]) ∧ Below w.heap.size w w' := by
  refine (Parse_any hS hGl A2 hA rfl (by decide) (Nat.le_refl _) (by decide) Q2 (fun k => k = 1) (.inl ⟨rfl, rfl, rfl, rfl⟩) steps2).mono ?_
  rintro e w' ⟨h, hb⟩
  refine ⟨?_, hb⟩
  rcases h with ⟨k, G, R, h, vg, vr, hq, hk, rfl, h1, h2⟩ | ⟨_, rfl, h⟩
  · rcases hq with ⟨rfl, _⟩ | ⟨rfl, _⟩ <;> omega
  · exact h
set_option maxRecDepth 100000 in
theorem parse_0 (w : World) : Calls Tryz.prog 44 #[.pointer none, .slice none 0 0] w fun e w' => e = .returned (.tuple #[.agg #[.slice none 0 0, .slice none 0 0, .bool false], .int .i64 1, .int .i64 0]) ∧ Below w.heap.size w w' := by
  obtain ⟨wA, hA⟩ : ∃ wA, wA = (w.alloc (.cells #[.slice none 0 0] 38)).alloc (.cells #[.slice none 0 0, .slice none 0 0, .bool false] 70) := ⟨_, rfl⟩
  have kA : wA.heap[w.heap.size + 1]? = some (.cells #[.slice none 0 0, .slice none 0 0, .bool false] 70 (0, 0)) := by rw [hA]; have := heap_alloc_new (w.alloc (.cells #[.slice none 0 0] 38)) (.cells #[.slice none 0 0, .slice none 0 0, .bool false] 70); simpa using this
  have hbA : Below w.heap.size w wA := by rw [hA]; exact ((Below.refl _ _).alloc (Nat.le_refl _) _).alloc (by simp) _
  have HkA := Lib.hid kA
  have HbA := Lib.hid hbA
  have z0 : wA.cell? ⟨w.heap.size + 1, 0, none⟩ = some (.slice none 0 0) := cell_in kA
  have z1 : wA.cell? ⟨w.heap.size + 1, 1, none⟩ = some (.slice none 0 0) := cell_in kA
  have z2 : wA.cell? ⟨w.heap.size + 1, 2, none⟩ = some (.bool false) := cell_in kA
  have y0 : wA.frozen? ⟨w.heap.size + 1, 0, none⟩ = false := free_in kA
  have y1 : wA.frozen? ⟨w.heap.size + 1, 1, none⟩ = false := free_in kA
  have y2 : wA.frozen? ⟨w.heap.size + 1, 2, none⟩ = false := free_in kA
  have ylt := lt_of_block kA
  clear kA hbA
  go_enter Tryz.func44, Tryz.ntmps44
  go_upto_region 1 with fail
  rw [← hA]
  clear hA
  go_wp2_with fail
  have HZ := Lib.hid (heap_set (o := 2) (heap_set (o := 1) (heap_set (o := 0) HkA.out (.slice none 0 0)) (.slice none 0 0)) (.bool false))
  refine bodyPost_ret (results_cell_row3 rfl _ _ (w.heap.size + 1) 70 _ _ _ rfl HZ.out Tryz.underlying70 rfl (by kernel_rfl)) rfl ?_
  exact ⟨rfl, ((HbA.out.setCell (p := ⟨w.heap.size + 1, 0, none⟩) (by simp) _).setCell (p := ⟨w.heap.size + 1, 1, none⟩) (by simp) _).setCell (p := ⟨w.heap.size + 1, 2, none⟩) (by simp) _⟩
theorem print_0 (w : World) : Calls Tryz.prog 15 #[.pointer none, .slice none 0 0] w fun e w' => e = .returned (.tuple #[.slice none 0 0, .int .i64 1]) ∧ w' = w := by
  go_enter Tryz.func15, Tryz.ntmps15
  go_wp2_with fail
  go_ret2
  exact ⟨rfl, rfl⟩
theorem ok_1 : okG stdK [⟨portK.name, [49], 0⟩] = true := by decide +kernel
theorem ok_2 : okG stdK [⟨[112, 111, 114, 116], [], 0⟩] = false := by decide +kernel
theorem print_1 (M b : Nat) (c : Nat) (g : Nat) (w : World) (hS : SetK M w b stdK) (hG : Gws w (.slice (some ⟨g, 0, none⟩) 1 c) [⟨portK.name, [49], 0⟩]) :
    Calls Tryz.prog 15 #[.pointer (some ⟨b, 0, none⟩), .slice (some ⟨g, 0, none⟩) 1 c] w fun e w' => (∃ p c, e = .returned (.tuple #[.slice p 1 c, .int .i64 0]) ∧ NewSts w.heap.size w' (.slice p 1 c) [lineL ⟨portK.name, [49], 0⟩]) ∧ Below w.heap.size w w' := by
  refine (prints_any M b stdK _ 1 c [⟨portK.name, [49], 0⟩] rfl (by decide) (fun x hx => by rw [List.mem_singleton.1 hx]; decide) w hS hG).mono ?_
  rintro e w' ⟨⟨v, rfl, hv⟩, hb⟩
  unfold erG outG at *
  rw [if_pos ok_1] at hv
  rw [if_pos ok_1]
  refine ⟨?_, hb⟩
  rcases hv with ⟨h, _⟩ | ⟨q, c', cs, rfl, r⟩
  · cases h
  · exact ⟨_, _, rfl, .inr ⟨q, c', cs, rfl, r⟩⟩
theorem print_2 (M b : Nat) (c : Nat) (g : Nat) (w : World) (hS : SetK M w b stdK) (hG : Gws w (.slice (some ⟨g, 0, none⟩) 1 c) [⟨[112, 111, 114, 116], [], 0⟩]) :
    Calls Tryz.prog 15 #[.pointer (some ⟨b, 0, none⟩), .slice (some ⟨g, 0, none⟩) 1 c] w fun e w' => (∃ v, e = .returned (.tuple #[v, .int .i64 1])) ∧ Below w.heap.size w w' := by
  refine (prints_any M b stdK _ 1 c [⟨[112, 111, 114, 116], [], 0⟩] rfl (by decide) (fun x hx => by rw [List.mem_singleton.1 hx]; decide) w hS hG).mono ?_
  rintro e w' ⟨⟨v, rfl, hv⟩, hb⟩
  unfold erG
  rw [if_neg (by rw [ok_2]; decide)]
  exact ⟨⟨v, rfl⟩, hb⟩
set_option maxHeartbeats 8000000 in
set_option maxRecDepth 100000 in
theorem awake7_any (w : World) (hV : Vlo w) : Calls Tryz.prog 13 #[] w fun e w' => e = .returned (.bool true) ∧ Below w.heap.size w w' := by
  have HV := Lib.hid fun W (h : Below w.heap.size w W) => hV.below h (Nat.le_refl _)
  clear hV
  go_enter Tryz.func13, Tryz.ntmps13
  go_wp2_with fail
  refine (Standard_any w (HV.out _ (Below.refl _ _))).mono ?_
  rintro e w1 ⟨⟨b, rfl, hS1⟩, hb1⟩
  have HS1 := Lib.hid hS1
  have Hb1 := Lib.hid hb1
  clear hS1 hb1
  obtain ⟨x1, hx1⟩ : ∃ x1, x1 = w1.alloc (.cells #[.string ⟨#[45, 112]⟩, .string ⟨#[57, 48, 48, 50]⟩, .string ⟨#[120]⟩, .string ⟨#[45, 45, 98, 111, 111, 116, 46, 100, 114, 121]⟩, .string ⟨#[45, 104]⟩, .string ⟨#[45, 45]⟩, .string ⟨#[45, 113]⟩] 9) := ⟨_, rfl⟩
  have Hkx1 : Hid (x1.heap[w1.heap.size]? = some (.cells #[.string ⟨#[45, 112]⟩, .string ⟨#[57, 48, 48, 50]⟩, .string ⟨#[120]⟩, .string ⟨#[45, 45, 98, 111, 111, 116, 46, 100, 114, 121]⟩, .string ⟨#[45, 104]⟩, .string ⟨#[45, 45]⟩, .string ⟨#[45, 113]⟩] 9 (0, 0))) := Lib.hid (by rw [hx1]; exact heap_alloc_new w1 _)
  have Hox1 : Hid (Below w1.heap.size w1 x1) := Lib.hid (by rw [hx1]; exact (Below.refl _ _).alloc (Nat.le_refl _) _)
  have HP1 := Lib.hid (parse_1 (HS1.out.later Hox1.out) (HV.out _ (en.then_bel Hb1.out Hb1.out.size Hox1.out)).glo (rw.rw_lit (l := A1) stC_len Hkx1.out rfl))
  have Hbx1 := Lib.hid (en.then_bel Hb1.out Hb1.out.size Hox1.out)
  go_wp2_with fail
  rw [← hx1]
  refine HP1.out.mono ?_
  rintro e w2 ⟨⟨pg, cg, pr, cr, rfl, hg2, hr2⟩, hb2⟩
  have HS2 := Lib.hid ((HS1.out.later Hox1.out).later hb2)
  have Hb2 := Lib.hid (en.then_bel Hbx1.out Hbx1.out.size hb2)
  have Hg2 := Lib.hid (hg2.rw gvC_len)
  have Hr2 := Lib.hid (hr2.rw stC_len)
  clear hg2 hr2 hb2 hx1 HP1 Hkx1 Hox1 HS1 Hb1
  go_upto_region 5 with fail
  refine go_name (fun wA hA => ?_)
  have kA : wA.heap[w2.heap.size]? = some (.cells #[.slice pg 2 cg, .slice pr 2 cr, .bool true] 70 (0, 0)) := by rw [hA]; exact heap_alloc_new w2 _
  have hbA : Below w2.heap.size w2 wA := by rw [hA]; exact (Below.refl _ _).alloc (Nat.le_refl _) _
  obtain ⟨ga, hga⟩ : ∃ ga, ga = w2.heap.size := ⟨_, rfl⟩
  rw [← hga] at kA ⊢
  have HL := Lib.hid fun W (hb : Below wA.heap.size wA W) => And.intro ((hb.block _ (lt_of_block kA)).trans kA) (And.intro ((Hg2.out.later hbA).later hb) ((Hr2.out.later hbA).later hb))
  have HSA := Lib.hid (HS2.out.later hbA)
  have HbA := Lib.hid (en.then_bel Hb2.out Hb2.out.size hbA)
  clear hA kA hbA hga HS2 Hg2 Hr2 Hbx1 Hb2
  obtain ⟨x2, hx2⟩ : ∃ x2, x2 = wA.alloc (.cells #[.string ⟨#[120]⟩, .string ⟨#[45, 112]⟩] 9) := ⟨_, rfl⟩
  have Hkx2 : Hid (x2.heap[wA.heap.size]? = some (.cells #[.string ⟨#[120]⟩, .string ⟨#[45, 112]⟩] 9 (0, 0))) := Lib.hid (by rw [hx2]; exact heap_alloc_new wA _)
  have Hox2 : Hid (Below wA.heap.size wA x2) := Lib.hid (by rw [hx2]; exact (Below.refl _ _).alloc (Nat.le_refl _) _)
  have HP2 := Lib.hid (parse_2 (HSA.out.later Hox2.out) (HV.out _ (en.then_bel HbA.out HbA.out.size Hox2.out)).glo (rw.rw_lit (l := A2) stC_len Hkx2.out rfl))
  go_wp2_with fail
  rw [← hx2]
  refine HP2.out.mono ?_
  rintro e w3 ⟨rfl, hb3⟩
  have Hl3 := Lib.hid (en.then_bel Hox2.out Hox2.out.size hb3)
  clear hb3 hx2 HP2 Hkx2 Hox2
  go_upto_region 6 with fail
  refine go_name (fun wB hB => ?_)
  have hbB : Below w3.heap.size w3 wB := by rw [hB]; exact (Below.refl _ _).alloc (Nat.le_refl _) _
  have HlB := Lib.hid (en.then_bel Hl3.out Hl3.out.size hbB)
  clear hB hbB Hl3
  go_wp2_with fail
  refine (parse_0 wB).mono ?_
  rintro e w4 ⟨rfl, hb4⟩
  have Hl4 := Lib.hid (en.then_bel HlB.out HlB.out.size hb4)
  clear hb4 HlB
  go_upto_region 7 with fail
  refine go_name (fun wC hC => ?_)
  have hbC : Below w4.heap.size w4 wC := by rw [hC]; exact (Below.refl _ _).alloc (Nat.le_refl _) _
  have HlC := Lib.hid (en.then_bel Hl4.out Hl4.out.size hbC)
  clear hC hbC Hl4
  obtain ⟨x3, hx3⟩ : ∃ x3, x3 = wC.alloc (.cells #[.string ⟨#[110, 101, 116, 46, 112, 111, 114, 116]⟩, .string ⟨#[49]⟩, .int .i64 0] 35) := ⟨_, rfl⟩
  have Hkx3 : Hid (x3.heap[wC.heap.size]? = some (.cells #[.string ⟨#[110, 101, 116, 46, 112, 111, 114, 116]⟩, .string ⟨#[49]⟩, .int .i64 0] 35 (0, 0))) := Lib.hid (by rw [hx3]; exact heap_alloc_new wC _)
  have Hox3 : Hid (Below wC.heap.size wC x3) := Lib.hid (by rw [hx3]; exact (Below.refl _ _).alloc (Nat.le_refl _) _)
  have Hlx3 := Lib.hid (en.then_bel HlC.out HlC.out.size Hox3.out)
  have HP3 := Lib.hid (print_1 w.heap.size b 1 wC.heap.size x3 (HSA.out.later Hlx3.out) (rw.rw_lit (l := [⟨portK.name, [49], 0⟩]) gwC_len Hkx3.out rfl))
  go_wp2_with fail
  rw [← hx3]
  refine HP3.out.mono ?_
  rintro e w5 ⟨⟨pl, cl, rfl, hl5⟩, hb5⟩
  have Hl5 := Lib.hid (en.then_bel Hlx3.out Hlx3.out.size hb5)
  have Hrow := Lib.hid (hl5.rw stC_len)
  clear hl5 hb5 hx3 HP3 Hkx3 Hox3 Hlx3 HlC
  obtain ⟨x4, hx4⟩ : ∃ x4, x4 = w5.alloc (.cells #[.string ⟨#[112, 111, 114, 116]⟩, .string ⟨#[]⟩, .int .i64 0] 35) := ⟨_, rfl⟩
  have Hkx4 : Hid (x4.heap[w5.heap.size]? = some (.cells #[.string ⟨#[112, 111, 114, 116]⟩, .string ⟨#[]⟩, .int .i64 0] 35 (0, 0))) := Lib.hid (by rw [hx4]; exact heap_alloc_new w5 _)
  have Hox4 : Hid (Below w5.heap.size w5 x4) := Lib.hid (by rw [hx4]; exact (Below.refl _ _).alloc (Nat.le_refl _) _)
  have Hlx4 := Lib.hid (en.then_bel Hl5.out Hl5.out.size Hox4.out)
  have HP4 := Lib.hid (print_2 w.heap.size b 1 w5.heap.size x4 (HSA.out.later Hlx4.out) (rw.rw_lit (l := [⟨[112, 111, 114, 116], [], 0⟩]) gwC_len Hkx4.out rfl))
  go_wp2_with fail
  rw [← hx4]
  refine HP4.out.mono ?_
  rintro e w6 ⟨⟨v6, rfl⟩, hb6⟩
  have Hl6 := Lib.hid (en.then_bel Hlx4.out Hlx4.out.size hb6)
  have Hrow6 := Lib.hid ((Hrow.out.later Hox4.out).later hb6)
  clear hb6 hx4 HP4 Hkx4 Hox4 Hlx4 Hl5 Hrow
  go_wp2_with fail
  refine (print_0 w6).mono ?_
  rintro e w7 ⟨rfl, rfl⟩
  obtain ⟨kk, hGv, hSt⟩ := HL.out _ Hl6.out
  have c0 : w7.cell? ⟨ga, 0, none⟩ = some (.slice pg 2 cg) := cell_in kk
  have c1 : w7.cell? ⟨ga, 1, none⟩ = some (.slice pr 2 cr) := cell_in kk
  have cl0 := lt_of_block kk
  have HSt := Lib.hid hSt
  clear kk hGv hSt
  obtain ⟨x5, hx5⟩ : ∃ x5, x5 = w7.alloc (.cells #[.string ⟨#[120]⟩, .string ⟨#[45, 113]⟩] 9) := ⟨_, rfl⟩
  have Hkx5 : Hid (x5.heap[w7.heap.size]? = some (.cells #[.string ⟨#[120]⟩, .string ⟨#[45, 113]⟩] 9 (0, 0))) := Lib.hid (by rw [hx5]; exact heap_alloc_new w7 _)
  have Hox5 : Hid (Below w7.heap.size w7 x5) := Lib.hid (by rw [hx5]; exact (Below.refl _ _).alloc (Nat.le_refl _) _)
  have HP5 := Lib.hid (texts7_any pr (some ⟨w7.heap.size, 0, none⟩) 2 cr 2 R1 (by decide) x5 (HSt.out.later Hox5.out) (rw.rw_lit (l := R1) stC_len Hkx5.out rfl))
  have Hlx5 := Lib.hid (en.then_bel Hl6.out Hl6.out.size Hox5.out)
  go_wp2_with fail
  rw [← hx5]
  refine HP5.out.mono ?_
  rintro e w8 ⟨rfl, q8, hq8⟩
  have hb8 : Below x5.heap.size x5 w8 := by rw [hq8]; exact drewN_bel x5 q8
  have Hl8 := Lib.hid (en.then_bel Hlx5.out Hlx5.out.size hb8)
  have Hrow8 := Lib.hid ((Hrow6.out.later Hox5.out).later hb8)
  obtain ⟨kk, hGv, _⟩ := HL.out _ Hl8.out
  clear hq8 hb8 hx5 HP5 Hkx5 Hox5 Hlx5 c0 c1 cl0
  have c0 : w8.cell? ⟨ga, 0, none⟩ = some (.slice pg 2 cg) := cell_in kk
  have c2 : w8.cell? ⟨ga, 2, none⟩ = some (.bool true) := cell_in kk
  have cl0 := lt_of_block kk
  obtain ⟨_, _, hpt⟩ := hGv.ptr
  obtain ⟨bg, og, rfl, hbg⟩ := hpt (by decide)
  obtain ⟨g0, g1, g2⟩ := gv_cells hGv (j := 0) (x := ⟨portK.name, t9, 0⟩) rfl
  obtain ⟨g3, g4, g5⟩ := gv_cells hGv (j := 1) (x := ⟨dryK.name, tT, 3⟩) rfl
  obtain ⟨_, _, hpl⟩ := Hrow8.out.ptr
  obtain ⟨bl, ol, rfl, hbl⟩ := hpl (by decide)
  have l0 := st_cell Hrow8.out (j := 0) (x := lineL ⟨portK.name, [49], 0⟩) rfl
  have heq := eql_gv
  have HF := Lib.hid (HbA.out.trans (Hl8.out.mono HbA.out.size))
  clear kk hGv hpt hpl Hrow8 Hrow6 HL HSA HSt Hl8 Hl6
  rw [Nat.zero_mul, Nat.add_zero] at g0 g1 g2
  rw [Nat.one_mul] at g3 g4 g5
  rw [Nat.add_zero] at l0
  rw [show B (lineL ⟨portK.name, [49], 0⟩) = ⟨#[45, 45, 110, 101, 116, 46, 112, 111, 114, 116, 61, 49]⟩ from rfl] at l0
  rw [show B (Gv.name ⟨portK.name, t9, 0⟩) = ⟨#[110, 101, 116, 46, 112, 111, 114, 116]⟩ from rfl] at g0
  rw [show B (Gv.text ⟨portK.name, t9, 0⟩) = ⟨#[57, 48, 48, 50]⟩ from rfl] at g1
  rw [show B (Gv.name ⟨dryK.name, tT, 3⟩) = ⟨#[98, 111, 111, 116, 46, 100, 114, 121]⟩ from rfl] at g3
  rw [show B (Gv.text ⟨dryK.name, tT, 3⟩) = ⟨#[116, 114, 117, 101]⟩ from rfl] at g4
  go_wp2_with fail
  go_ret
  exact ⟨rfl, HF.out⟩
end Go.Proofs.YtpfhhaonfbfheaaGreatDoor.fl
/- Given in a block of their owner's: made, copied, one cell behind them written. Plain facts on blocks; no conditions beside those stated. -/
namespace Go.Proofs.YtpfhhaonfbfheaaGreatDoor.fl
open Go.ChangeShapes Go.WideShapes Go.ChangeAt Go.RowKit gl va ls ky en

theorem run_copy_kg {P : Program} (w : World) (dT sT ty elem : TypeId) (g dLen dCap : Nat) (a : Addr) (sLen sCap : Nat) (cur : Array Value) (t : TypeId) (cs : List Value) (size n : Nat)
    (hu : P.underlying dT = some (.slice elem)) (hs : (P.info? elem).map (·.size) = some size) (hmin : Nat.min sLen dLen = n)
    (hg : w.heap[g]? = some (.cells cur t (0, 0))) (hn : cs.length = n * size)
    (hsrc : ∀ j v, cs[j]? = some v → w.cell? (a.add j) = some v) (hfit : cs.length ≤ cur.size) (h1 : ∀ v ∈ cs, v.oneCell' = true) :
    (Builtin.copy_ #[dT, sT] ty #[.slice (some ⟨g, 0, none⟩) dLen dCap, .slice (some a) sLen sCap]).run P w =
      .ok (goInt n) (w.setRow g (cs ++ cur.toList.drop cs.length).toArray) := by
  have hl := run_loadCells_list (P := P) w a cs hsrc
  have hst := run_storeCells_at P g 0 t cs 0 cur w hg (by simpa using hfit) h1
  cases hq : P.info? elem with
  | none => simp [hq] at hs
  | some i =>
    have hi : i.size = size := by simpa [hq] using hs
    simp only [Nat.zero_add, List.take_zero, List.nil_append] at hst
    simp [Builtin.copy_, run_underlying hu, Builtin.lenOf, Builtin.firstCells, sizeOf, typeInfo, hq, hi, hmin, ← hn, hl, hst]
theorem run_copy_0g {P : Program} (w : World) (dT sT ty elem : TypeId) (d a : Option Addr) (dLen dCap sLen sCap size : Nat) (hu : P.underlying dT = some (.slice elem)) (hs : (P.info? elem).map (·.size) = some size) (hn : Nat.min sLen dLen = 0) :
    (Builtin.copy_ #[dT, sT] ty #[.slice d dLen dCap, .slice a sLen sCap]).run P w = .ok (goInt 0) w := by
  cases hq : P.info? elem with
  | none => simp [hq] at hs
  | some i =>
    have hl : ∀ (x : Addr), (loadCells x 0).run P w = .ok #[] w := fun x => by simpa using run_loadCells_list (P := P) w x [] (by simp)
    cases d <;> cases a <;> simp [Builtin.copy_, run_underlying hu, Builtin.lenOf, Builtin.firstCells, sizeOf, typeInfo, hq, hn, storeCells, hl]
theorem infoGz : (Tryz.prog.info? 35).map (·.size) = some 3 := by kernel_rfl
abbrev zeroG : Value := .agg #[.string .empty, .string .empty, .int .i64 0]
def blanksG (n : Nat) : Array Value := madeCells (Value.cells zeroG) (n * 3)
theorem blanksG_size (n : Nat) : (blanksG n).size = n * 3 := by simp [blanksG, madeCells]
theorem makeG (m : Nat) (hm : m ≤ 1073741824) (w : World) : (Instr.makeSlice 31 (.int .i64 ((m : Int) + 1)) (.int .i64 ((m : Int) + 1))).run Tryz.prog w = .ok (.slice (some ⟨w.heap.size, 0, none⟩) (m + 1) (m + 1)) (w.alloc (.cells (blanksG (m + 1)) 35)) := by
  obtain ⟨i, hi, he⟩ := Option.map_eq_some_iff.1 infoGv
  simp only [Prod.mk.injEq] at he
  obtain ⟨hz, h1, h8⟩ := he
  have h := run_make (P := Tryz.prog) w 31 35 i zeroG Tryz.underlying31 hi hz .i64 .i64 ((m : Int) + 1) ((m : Int) + 1) (by omega) (by omega) (by rw [h8]; omega) (by omega)
  rw [h, h1, show ((m : Int) + 1).toNat = m + 1 by omega]
  rfl
/-- The given l lie at the head of block g, one place behind them. -/
def OwnG (g : Nat) (W : World) (m : Nat) (l : List Gw) : Prop := ∃ cs, W.heap[g]? = some (.cells cs 35 (0, 0)) ∧ cs.size = (m + 1) * 3 ∧ l.length = m ∧ ∀ (i : Nat) (v : Value), (rw.flat gwC l)[i]? = some v → cs[i]? = some v
theorem OwnG.lt {g m : Nat} {W : World} {l : List Gw} (h : OwnG g W m l) : g < W.heap.size := by obtain ⟨_, h1, _⟩ := h; exact lt_of_block h1
theorem OwnG.later {g m : Nat} {W W' : World} {l : List Gw} (h : OwnG g W m l) (hb : Below W.heap.size W W') : OwnG g W' m l := by
  obtain ⟨cs, h1, h2⟩ := h
  exact ⟨cs, (hb.block g (lt_of_block h1)).trans h1, h2⟩
theorem OwnG.rows {g m : Nat} {W : World} {l : List Gw} (h : OwnG g W m l) : Gws W (.slice (some ⟨g, 0, none⟩) m (m + 1)) l := by
  obtain ⟨cs, h1, h2, h3, h4⟩ := h
  refine ⟨_, m + 1, by rw [h3], by omega, .inr ⟨g, 0, rfl, lt_of_block h1, fun j x hx i u hu => ?_⟩⟩
  rw [Nat.zero_add, cell_in h1]
  exact h4 _ u (rw.flat_at gwC_len l j x i u hx hu)
theorem OwnG.free {g m : Nat} {W : World} {l : List Gw} (h : OwnG g W m l) (i : Nat) : W.frozen? ⟨g, i, none⟩ = false := by
  obtain ⟨cs, h1, _⟩ := h
  exact free_in h1
theorem OwnG.last {g m : Nat} {W : World} {l : List Gw} (h : OwnG g W m l) : ∃ v, W.cell? ⟨g, m * 3 + 2, none⟩ = some v := by
  obtain ⟨cs, h1, h2, _⟩ := h
  exact ⟨cs[m * 3 + 2]'(by omega), by rw [cell_in h1, Array.getElem?_eq_getElem (by omega)]⟩
theorem OwnG.put {g m : Nat} {W : World} {l : List Gw} (h : OwnG g W m l) (v : Value) : OwnG g (W.setCell ⟨g, m * 3 + 2, none⟩ v) m l ∧ (W.setCell ⟨g, m * 3 + 2, none⟩ v).cell? ⟨g, m * 3 + 2, none⟩ = some v := by
  obtain ⟨u, hu⟩ := h.last
  obtain ⟨cs, h1, h2, h3, h4⟩ := h
  refine ⟨⟨cs.setIfInBounds (m * 3 + 2) v, heap_set h1 v, by simpa using h2, h3, fun i x hx => ?_⟩, World.cell?_setCell_same W _ v hu⟩
  have hi : i < l.length * 3 := by have := (List.getElem?_eq_some_iff.1 hx).1; rwa [rw.flat_len gwC_len] at this
  rw [Array.getElem?_setIfInBounds_ne (by omega)]
  exact h4 i x hx
theorem ownG_copied {g m : Nat} {w : World} {l : List Gw} (hl : l.length = m) (h : w.heap[g]? = some (.cells ((rw.flat gwC l) ++ (blanksG (m + 1)).toList.drop (rw.flat gwC l).length).toArray 35 (0, 0))) : OwnG g w m l := by
  have hpl : (rw.flat gwC l).length = m * 3 := by rw [rw.flat_len gwC_len, hl]
  refine ⟨_, h, by simp [hpl, blanksG_size]; omega, hl, fun i v hv => ?_⟩
  rw [List.getElem?_toArray, List.getElem?_append_left (List.getElem?_eq_some_iff.1 hv).1]
  exact hv
theorem flat_invG {l : List Gw} {i : Nat} {v : Value} (h : (rw.flat gwC l)[i]? = some v) : ∃ x, l[i / 3]? = some x ∧ (gwC x)[i % 3]? = some v := by
  have hlt : i < l.length * 3 := by have := (List.getElem?_eq_some_iff.1 h).1; rwa [rw.flat_len gwC_len] at this
  obtain ⟨x, hx⟩ : ∃ x, l[i / 3]? = some x := ⟨_, List.getElem?_eq_getElem (by omega)⟩
  obtain ⟨u, hu⟩ : ∃ u, (gwC x)[i % 3]? = some u := ⟨_, List.getElem?_eq_getElem (show i % 3 < 3 by omega)⟩
  have := rw.flat_at gwC_len l (i / 3) x (i % 3) u hx hu
  rw [show i / 3 * 3 + i % 3 = i by omega, h] at this
  obtain rfl := Option.some.inj this
  exact ⟨x, hx, hu⟩
/-- What copy leaves in a new block. -/
theorem copy_g {w W0 : World} {p : Option Addr} {m c : Nat} {l : List Gw} {g : Nat} (h : Gws w (.slice p m c) l) (hm : m ≤ 1073741824) (hg : W0.heap[g]? = some (.cells (blanksG (m + 1)) 35 (0, 0))) (hb : Below w.heap.size w W0) :
    ∃ w3, (Builtin.copy_ #[31, 31] 3 #[.slice (some ⟨g, 0, none⟩) (m + 1) (m + 1), .slice p m c]).run Tryz.prog W0 = .ok (goInt m) w3 ∧ OwnG g w3 m l ∧ Below g W0 w3 ∧ w3.heap.size = W0.heap.size := by
  obtain ⟨hlen, hmc, hptr⟩ := h.ptr
  by_cases h0 : m = 0
  · subst h0
    obtain rfl : l = [] := List.eq_nil_of_length_eq_zero hlen
    refine ⟨W0, ?_, ?_, Below.refl _ _, rfl⟩
    · exact run_copy_0g (P := Tryz.prog) W0 31 31 3 35 _ p _ _ _ _ 3 Tryz.underlying31 infoGz (by rfl)
    · exact ownG_copied (l := []) rfl (by rw [hg]; simp [rw.flat])
  · obtain ⟨b, o, rfl, hbl⟩ := hptr (by omega)
    have hpl : (rw.flat gwC l).length = m * 3 := by rw [rw.flat_len gwC_len, hlen]
    refine ⟨_, run_copy_kg (P := Tryz.prog) W0 31 31 3 35 g _ _ ⟨b, o, none⟩ _ _ (blanksG (m + 1)) 35 (rw.flat gwC l) 3 m Tryz.underlying31 infoGz (Nat.min_eq_left (by omega)) hg hpl (fun j v hj => ?_) (by rw [hpl, blanksG_size]; omega) (rw.flat_one gwC_one l), ?_, below_setRow (Below.refl _ _) (Nat.le_refl _) _, by simp⟩
    · rw [ls.addN]
      obtain ⟨y, hy, hv⟩ := flat_invG hj
      have hc := rw.Rw.cell (h.later hb) hy hv
      rwa [show j / 3 * 3 + j % 3 = j by omega] at hc
    · exact ownG_copied hlen (setRow_heap W0 _ _ _ _ _ hg)

/-! ### What the given weigh -/
def Wg7 (l : List Gw) (k : Nat) (N : Int) : Prop := N ≤ 2147483647 → (k : Int) ≤ N ∧ ∀ (j : Nat) (x : Gw), j < k → l[j]? = some x → x.name.length ≤ 2147483647 ∧ x.text.length ≤ 2147483647
theorem Wg7.next {l : List Gw} {k : Nat} {N T : Int} {x : Gw} (h : Wg7 l k N) (h0 : 0 ≤ N) (hx : l[k]? = some x) (hT : T = ((B x.text).size : Int) ∨ (2147483647 : Int) = T) (hT0 : 0 ≤ T) : Wg7 l (k + 1) (add7 N (add7 (add7 ((B x.name).size : Int) 20) (4 * T))) := by
  intro hN
  have n1 := add7_nn (n := ((B x.name).size : Int)) (m := 20) (by omega) (by omega)
  have n3 := add7_nn n1 (m := 4 * T) (by omega)
  obtain ⟨h1, h2⟩ := add7_sum hN
  obtain ⟨h3, h4⟩ := add7_sum (n := add7 ((B x.name).size : Int) 20) (m := 4 * T) (by omega)
  obtain ⟨h5, h6⟩ := add7_sum (n := ((B x.name).size : Int)) (m := 20) (by omega)
  rw [B_size] at h6 hT
  obtain ⟨h7, h8⟩ := h (by omega)
  refine ⟨by omega, fun j y hj hy => ?_⟩
  rcases Nat.lt_or_ge j k with h12 | h12
  · exact h8 j y h12 hy
  · obtain rfl : j = k := by omega
    rw [hx] at hy
    obtain rfl := Option.some.inj hy
    exact ⟨by omega, by rcases hT with h | h <;> omega⟩
theorem Wg7.done {l : List Gw} {k : Nat} {N : Int} (h : Wg7 l k N) (hk : l.length ≤ k) (hN : N ≤ 2147483647) : Gsz l := by
  intro x hx
  obtain ⟨j, hj⟩ := List.mem_iff_getElem?.1 hx
  exact (h hN).2 j x (by have := lt_len hj; omega) hj
end Go.Proofs.YtpfhhaonfbfheaaGreatDoor.fl
/- Arguments that are definitions or texts, opened: what they hold, and their cells in memory. No conditions. -/
namespace Go.Proofs.YtpfhhaonfbfheaaGreatDoor.en
open Go.ChangeShapes Go.WideShapes Go.Deep Go.RowKit gl va ls ky

theorem wf_b {n : Int} (h : (Lit.int .i64 n).wf = true) : -9223372036854775808 ≤ n ∧ n ≤ 9223372036854775807 := by
  have := h
  simp [Lit.wf, IntKind.min, IntKind.max, IntKind.signed, IntKind.bits] at this
  exact this
def KeysOk (W : World) (p : Option Addr) (cap : Nat) (l : List Ky) : Prop := Kys W (.slice p l.length cap) l ∧ ∀ x ∈ l, KyI x
def TxtsOk (W : World) (p : Option Addr) (cap : Nat) (l : List (List UInt8)) : Prop := Sts W (.slice p l.length cap) l
theorem cStrE : Tryz.prog.cellsOf 9 = 1 := by kernel_rfl
instance : Inhabited Ky := ⟨⟨[], 0, [], 0, 0, []⟩⟩
theorem keys_of {H : Type} {enc : TypeId × Value → H} {W : World} {v : Value} {d : DataW H} {ps : List MemPlace} (h : DataW.Trod enc Tryz.prog W 0 (fun _ => true) true 27 v d ps) (hv : v.cells.toList = [v]) :
    ∃ p cap l, v = .slice p l.length cap ∧ l.length ≤ maxLen ∧ KeysOk W p cap l := by
  rcases open_rows Tryz.underlying27 Tryz.underlying62 (by kernel_rfl) (by kernel_rfl) h hv with h | ⟨a, len, cap, hs, hl, hm, hat⟩
  · exact ⟨none, 0, [], h, Nat.zero_le _, ⟨none, 0, rfl, Nat.le_refl _, .inl rfl⟩, fun x hx => by cases hx⟩
  · have hall : ∀ i, i < len → ∃ x : Ky, KyI x ∧ ∃ b off, a = ⟨b, off, none⟩ ∧ b < W.heap.size ∧ ∀ (j : Nat) (u : Value), (kyC x)[j]? = some u → W.cell? ⟨b, off + (i * 6 + j), none⟩ = some u := by
      intro i hi
      obtain ⟨u0, y0, n0, c0, t0⟩ := hat i hi 0 _ rfl
      obtain ⟨u1, y1, n1, c1, t1⟩ := hat i hi 1 _ rfl
      obtain ⟨u2, y2, n2, c2, t2⟩ := hat i hi 2 _ rfl
      obtain ⟨u3, y3, n3, c3, t3⟩ := hat i hi 3 _ rfl
      obtain ⟨u4, y4, n4, c4, t4⟩ := hat i hi 4 _ rfl
      obtain ⟨u5, y5, n5, c5, t5⟩ := hat i hi 5 _ rfl
      obtain ⟨s0, e0, _, _⟩ := DataW.trod_string Tryz.underlying9 t0
      obtain ⟨z1, e1, _, w1⟩ := DataW.trod_int Tryz.underlying3 t1
      obtain ⟨s2, e2, _, _⟩ := DataW.trod_string Tryz.underlying9 t2
      obtain ⟨z3, e3, _, w3⟩ := DataW.trod_int Tryz.underlying3 t3
      obtain ⟨z4, e4, _, w4⟩ := DataW.trod_int Tryz.underlying3 t4
      obtain ⟨s5, e5, _, _⟩ := DataW.trod_string Tryz.underlying9 t5
      simp only [List.cons.injEq, and_true] at e0 e1 e2 e3 e4 e5
      subst e0 e1 e2 e3 e4 e5
      obtain ⟨v0, y0', n0', z, _⟩ := hat 0 (by omega) 0 _ rfl
      have hsp : a.spot = none := by
        have := spot_none z
        simpa [Addr.add] using this
      obtain ⟨b, off, sp⟩ := a
      simp only at hsp
      subst hsp
      rw [add_none] at c0 c1 c2 c3 c4 c5
      change W.cell? ⟨b, off + (i * 6 + 0), none⟩ = _ at c0
      change W.cell? ⟨b, off + (i * 6 + 1), none⟩ = _ at c1
      change W.cell? ⟨b, off + (i * 6 + 2), none⟩ = _ at c2
      change W.cell? ⟨b, off + (i * 6 + 3), none⟩ = _ at c3
      change W.cell? ⟨b, off + (i * 6 + 4), none⟩ = _ at c4
      change W.cell? ⟨b, off + (i * 6 + 5), none⟩ = _ at c5
      refine ⟨⟨s0.data.toList, z1, s2.data.toList, z3, z4, s5.data.toList⟩, ⟨wf_b w1, wf_b w3, wf_b w4⟩, b, off, rfl, World.block_lt_of_cell? _ _ c0, fun j u hu => ?_⟩
      match j, hu with
      | 0, hu => obtain rfl := Option.some.inj hu; simp only [B_of]; exact c0
      | 1, hu => obtain rfl := Option.some.inj hu; exact c1
      | 2, hu => obtain rfl := Option.some.inj hu; simp only [B_of]; exact c2
      | 3, hu => obtain rfl := Option.some.inj hu; exact c3
      | 4, hu => obtain rfl := Option.some.inj hu; exact c4
      | 5, hu => obtain rfl := Option.some.inj hu; simp only [B_of]; exact c5
    obtain ⟨f, hf⟩ := Deep.choose_lt hall
    refine ⟨some a, cap, (List.range len).map f, by simpa using hs, by simp; omega, ⟨some a, cap, rfl, by simpa using hl, ?_⟩, fun x hx => ?_⟩
    · by_cases h0 : len = 0
      · subst h0
        exact .inl rfl
      · obtain ⟨_, b, off, rfl, hb, _⟩ := hf 0 (by omega)
        refine .inr ⟨b, off, rfl, hb, fun j x hx i u hu => ?_⟩
        simp only [List.getElem?_map, Option.map_eq_some_iff] at hx
        obtain ⟨k, hk, rfl⟩ := hx
        obtain ⟨hk1, rfl⟩ := List.getElem?_eq_some_iff.1 hk
        simp only [List.getElem_range] at hu
        obtain ⟨_, b', off', he, _, h2⟩ := hf j (by simpa using hk1)
        cases he
        exact h2 i u hu
    · obtain ⟨i, hi, rfl⟩ := List.mem_map.1 hx
      exact (hf i (List.mem_range.1 hi)).1
theorem txts_of {H : Type} {enc : TypeId × Value → H} {W : World} {v : Value} {d : DataW H} {ps : List MemPlace} (h : DataW.Trod enc Tryz.prog W 0 (fun _ => true) true 38 v d ps) (hv : v.cells.toList = [v]) :
    ∃ p cap l, v = .slice p l.length cap ∧ l.length ≤ maxLen ∧ TxtsOk W p cap l := by
  obtain ⟨fuel, hfu⟩ := h
  rw [hv] at hfu
  rcases open_slice1 Tryz.underlying38 cStrE hfu with ⟨hcs, _⟩ | ⟨a, len, cap, m, n, V, D, Pl, hcs, hb, hl, hm, hmm, _, hat⟩
  · simp only [List.cons.injEq, and_true] at hcs
    exact ⟨none, 0, [], hcs, Nat.zero_le _, ⟨none, 0, rfl, Nat.le_refl _, .inl rfl⟩⟩
  · simp only [List.cons.injEq, and_true] at hcs
    have hall : ∀ i, i < len → ∃ x : List UInt8, V i = .string (B x) := by
      intro i hi
      obtain ⟨hc, ht⟩ := hat i (by rw [hmm]; split <;> omega)
      obtain ⟨s, e3, _, w3⟩ := DataW.trod_string Tryz.underlying9 ht
      simp only [List.cons.injEq, and_true] at e3
      exact ⟨s.data.toList, by rw [B_of]; exact e3⟩
    obtain ⟨f, hf⟩ := Deep.choose_lt hall
    refine ⟨some a, cap, (List.range len).map f, by simpa using hcs, by simp; omega, some a, cap, rfl, by simpa using hl, ?_⟩
    by_cases h0 : len = 0
    · subst h0
      exact .inl rfl
    · have h1 := (hat 0 (by rw [hmm]; split <;> omega)).1
      have hsp : a.spot = none := by
        have := spot_none h1
        simpa [Addr.add] using this
      obtain ⟨b, off, s⟩ := a
      simp only at hsp
      subst hsp
      refine .inr ⟨b, off, rfl, ?_, fun j x hj i u hu => ?_⟩
      · rw [add_none] at h1
        exact World.block_lt_of_cell? _ _ h1
      · simp only [List.getElem?_map, Option.map_eq_some_iff] at hj
        obtain ⟨k, hk, rfl⟩ := hj
        obtain ⟨hk1, rfl⟩ := List.getElem?_eq_some_iff.1 hk
        simp only [List.getElem_range] at hu
        have hjl : j < len := by simpa using hk1
        have h2 := (hat j (by rw [hmm]; split <;> omega)).1
        rw [add_none, hf j hjl] at h2
        obtain rfl : i = 0 := by have := ls.lt_get hu; simp [stC] at this; omega
        have hu' : u = .string (B (f j)) := by simpa [stC] using hu.symm
        rw [hu', Nat.mul_one, Nat.add_zero]
        exact h2
end Go.Proofs.YtpfhhaonfbfheaaGreatDoor.en
/- Arguments that are definitions or given, opened: what they hold, and their cells in memory. No conditions. -/
namespace Go.Proofs.YtpfhhaonfbfheaaGreatDoor.fl
open Go.ChangeShapes Go.WideShapes Go.Deep Go.RowKit gl va ls ky en

theorem tl_len (b : ByteArray) : b.data.toList.length = b.size := by simp
def Keys7 (W : World) (p : Option Addr) (cap : Nat) (l : List Ky) : Prop := Kys W (.slice p l.length cap) l ∧ ∀ x ∈ l, KyI x ∧ Kz x
def Givens7 (W : World) (p : Option Addr) (cap : Nat) (l : List Gw) : Prop := Gws W (.slice p l.length cap) l ∧ ∀ x ∈ l, x.name.length ≤ 9223372036854775807 ∧ x.text.length ≤ 9223372036854775807
theorem keys7_of {H : Type} {enc : TypeId × Value → H} {W : World} {v : Value} {d : DataW H} {ps : List MemPlace} (h : DataW.Trod enc Tryz.prog W 0 (fun _ => true) true 27 v d ps) (hv : v.cells.toList = [v]) :
    ∃ p cap l, v = .slice p l.length cap ∧ l.length ≤ maxLen ∧ Keys7 W p cap l := by
  rcases open_rows Tryz.underlying27 Tryz.underlying62 (by kernel_rfl) (by kernel_rfl) h hv with h | ⟨a, len, cap, hs, hl, hm, hat⟩
  · exact ⟨none, 0, [], h, Nat.zero_le _, ⟨none, 0, rfl, Nat.le_refl _, .inl rfl⟩, fun x hx => by cases hx⟩
  · have hall : ∀ i, i < len → ∃ x : Ky, (KyI x ∧ Kz x) ∧ ∃ b off, a = ⟨b, off, none⟩ ∧ b < W.heap.size ∧ ∀ (j : Nat) (u : Value), (kyC x)[j]? = some u → W.cell? ⟨b, off + (i * 6 + j), none⟩ = some u := by
      intro i hi
      obtain ⟨u0, y0, n0, c0, t0⟩ := hat i hi 0 _ rfl
      obtain ⟨u1, y1, n1, c1, t1⟩ := hat i hi 1 _ rfl
      obtain ⟨u2, y2, n2, c2, t2⟩ := hat i hi 2 _ rfl
      obtain ⟨u3, y3, n3, c3, t3⟩ := hat i hi 3 _ rfl
      obtain ⟨u4, y4, n4, c4, t4⟩ := hat i hi 4 _ rfl
      obtain ⟨u5, y5, n5, c5, t5⟩ := hat i hi 5 _ rfl
      obtain ⟨s0, e0, _, w0⟩ := DataW.trod_string Tryz.underlying9 t0
      obtain ⟨z1, e1, _, w1⟩ := DataW.trod_int Tryz.underlying3 t1
      obtain ⟨s2, e2, _, w2⟩ := DataW.trod_string Tryz.underlying9 t2
      obtain ⟨z3, e3, _, w3⟩ := DataW.trod_int Tryz.underlying3 t3
      obtain ⟨z4, e4, _, w4⟩ := DataW.trod_int Tryz.underlying3 t4
      obtain ⟨s5, e5, _, w5⟩ := DataW.trod_string Tryz.underlying9 t5
      simp only [List.cons.injEq, and_true] at e0 e1 e2 e3 e4 e5
      subst e0 e1 e2 e3 e4 e5
      obtain ⟨v0, y0', n0', z, _⟩ := hat 0 (by omega) 0 _ rfl
      have hsp : a.spot = none := by
        have := spot_none z
        simpa [Addr.add] using this
      obtain ⟨b, off, sp⟩ := a
      simp only at hsp
      subst hsp
      unfold maxLen at w0 w2 w5
      rw [add_none] at c0 c1 c2 c3 c4 c5
      change W.cell? ⟨b, off + (i * 6 + 0), none⟩ = _ at c0
      change W.cell? ⟨b, off + (i * 6 + 1), none⟩ = _ at c1
      change W.cell? ⟨b, off + (i * 6 + 2), none⟩ = _ at c2
      change W.cell? ⟨b, off + (i * 6 + 3), none⟩ = _ at c3
      change W.cell? ⟨b, off + (i * 6 + 4), none⟩ = _ at c4
      change W.cell? ⟨b, off + (i * 6 + 5), none⟩ = _ at c5
      refine ⟨⟨s0.data.toList, z1, s2.data.toList, z3, z4, s5.data.toList⟩, ⟨⟨wf_b w1, wf_b w3, wf_b w4⟩, by simp only [tl_len]; omega, by simp only [tl_len]; omega, by simp only [tl_len]; omega⟩, b, off, rfl, World.block_lt_of_cell? _ _ c0, fun j u hu => ?_⟩
      match j, hu with
      | 0, hu => obtain rfl := Option.some.inj hu; simp only [B_of]; exact c0
      | 1, hu => obtain rfl := Option.some.inj hu; exact c1
      | 2, hu => obtain rfl := Option.some.inj hu; simp only [B_of]; exact c2
      | 3, hu => obtain rfl := Option.some.inj hu; exact c3
      | 4, hu => obtain rfl := Option.some.inj hu; exact c4
      | 5, hu => obtain rfl := Option.some.inj hu; simp only [B_of]; exact c5
    obtain ⟨f, hf⟩ := Deep.choose_lt hall
    refine ⟨some a, cap, (List.range len).map f, by simpa using hs, by simp; omega, ⟨some a, cap, rfl, by simpa using hl, ?_⟩, fun x hx => ?_⟩
    · by_cases h0 : len = 0
      · subst h0
        exact .inl rfl
      · obtain ⟨_, b, off, rfl, hb, _⟩ := hf 0 (by omega)
        refine .inr ⟨b, off, rfl, hb, fun j x hx i u hu => ?_⟩
        simp only [List.getElem?_map, Option.map_eq_some_iff] at hx
        obtain ⟨k, hk, rfl⟩ := hx
        obtain ⟨hk1, rfl⟩ := List.getElem?_eq_some_iff.1 hk
        simp only [List.getElem_range] at hu
        obtain ⟨_, b', off', he, _, h2⟩ := hf j (by simpa using hk1)
        cases he
        exact h2 i u hu
    · obtain ⟨i, hi, rfl⟩ := List.mem_map.1 hx
      exact (hf i (List.mem_range.1 hi)).1
theorem givens_of {H : Type} {enc : TypeId × Value → H} {W : World} {v : Value} {d : DataW H} {ps : List MemPlace} (h : DataW.Trod enc Tryz.prog W 0 (fun _ => true) true 31 v d ps) (hv : v.cells.toList = [v]) :
    ∃ p cap l, v = .slice p l.length cap ∧ l.length ≤ maxLen ∧ Givens7 W p cap l := by
  rcases open_rows Tryz.underlying31 Tryz.underlying35 (by kernel_rfl) (by kernel_rfl) h hv with h | ⟨a, len, cap, hs, hl, hm, hat⟩
  · exact ⟨none, 0, [], h, Nat.zero_le _, ⟨none, 0, rfl, Nat.le_refl _, .inl rfl⟩, fun x hx => by cases hx⟩
  · have hall : ∀ i, i < len → ∃ x : Gw, (x.name.length ≤ 9223372036854775807 ∧ x.text.length ≤ 9223372036854775807) ∧ ∃ b off, a = ⟨b, off, none⟩ ∧ b < W.heap.size ∧ ∀ (j : Nat) (u : Value), (gwC x)[j]? = some u → W.cell? ⟨b, off + (i * 3 + j), none⟩ = some u := by
      intro i hi
      obtain ⟨u0, y0, n0, c0, t0⟩ := hat i hi 0 _ rfl
      obtain ⟨u1, y1, n1, c1, t1⟩ := hat i hi 1 _ rfl
      obtain ⟨u2, y2, n2, c2, t2⟩ := hat i hi 2 _ rfl
      obtain ⟨s0, e0, _, w0⟩ := DataW.trod_string Tryz.underlying9 t0
      obtain ⟨s1, e1, _, w1⟩ := DataW.trod_string Tryz.underlying9 t1
      obtain ⟨z2, e2, _, w2⟩ := DataW.trod_int Tryz.underlying3 t2
      simp only [List.cons.injEq, and_true] at e0 e1 e2
      subst e0 e1 e2
      obtain ⟨v0, y0', n0', z, _⟩ := hat 0 (by omega) 0 _ rfl
      have hsp : a.spot = none := by
        have := spot_none z
        simpa [Addr.add] using this
      obtain ⟨b, off, sp⟩ := a
      simp only at hsp
      subst hsp
      unfold maxLen at w0 w1
      rw [add_none] at c0 c1 c2
      change W.cell? ⟨b, off + (i * 3 + 0), none⟩ = _ at c0
      change W.cell? ⟨b, off + (i * 3 + 1), none⟩ = _ at c1
      change W.cell? ⟨b, off + (i * 3 + 2), none⟩ = _ at c2
      refine ⟨⟨s0.data.toList, s1.data.toList, z2⟩, ⟨by simp only [tl_len]; omega, by simp only [tl_len]; omega⟩, b, off, rfl, World.block_lt_of_cell? _ _ c0, fun j u hu => ?_⟩
      match j, hu with
      | 0, hu => obtain rfl := Option.some.inj hu; simp only [B_of]; exact c0
      | 1, hu => obtain rfl := Option.some.inj hu; simp only [B_of]; exact c1
      | 2, hu => obtain rfl := Option.some.inj hu; exact c2
    obtain ⟨f, hf⟩ := Deep.choose_lt hall
    refine ⟨some a, cap, (List.range len).map f, by simpa using hs, by simp; omega, ⟨some a, cap, rfl, by simpa using hl, ?_⟩, fun x hx => ?_⟩
    · by_cases h0 : len = 0
      · subst h0
        exact .inl rfl
      · obtain ⟨_, b, off, rfl, hb, _⟩ := hf 0 (by omega)
        refine .inr ⟨b, off, rfl, hb, fun j x hx i u hu => ?_⟩
        simp only [List.getElem?_map, Option.map_eq_some_iff] at hx
        obtain ⟨k, hk, rfl⟩ := hx
        obtain ⟨hk1, rfl⟩ := List.getElem?_eq_some_iff.1 hk
        simp only [List.getElem_range] at hu
        obtain ⟨_, b', off', he, _, h2⟩ := hf j (by simpa using hk1)
        cases he
        exact h2 i u hu
    · obtain ⟨i, hi, rfl⟩ := List.mem_map.1 hx
      exact (hf i (List.mem_range.1 hi)).1
end Go.Proofs.YtpfhhaonfbfheaaGreatDoor.fl
/- law 07's FlagPrints returns true. Conditions: definitions and given whose texts and numbers may be; the listed variables hold what the program's text lays. -/
namespace Go.Proofs.YtpfhhaonfbfheaaGreatDoor.fl
open Go.ChangeShapes Go.WideShapes Go.ChangeAt Go.RowKit gl va ls ky en

theorem nn_step {N0 N A : Int} (h : N ≤ 2147483647 → N0 ≤ N) (hA : 0 ≤ A) : add7 N A ≤ 2147483647 → N0 ≤ add7 N A := fun h2 => by
  obtain ⟨h3, h4⟩ := add7_sum h2
  have h5 := h (by omega)
  omega
theorem out_len (S : List Ky) (g : List Gw) : (outG S g).length ≤ g.length := by
  unfold outG
  split <;> simp
theorem sts_form {M : Nat} {w : World} {v : Value} {l : List (List UInt8)} (h : NewSts M w v l) : ∃ p c, v = .slice p l.length c := by
  rcases h with ⟨rfl, rfl⟩ | ⟨q, c, cs, rfl, r⟩
  · exact ⟨none, 0, rfl⟩
  · exact ⟨_, c, rfl⟩
theorem sts_own {M : Nat} {w : World} {v : Value} {l : List (List UInt8)} (h : NewSts M w v l) : ∀ g, v.ownBlock = some g → M ≤ g ∧ g < w.heap.size := fun g hg => by
  rcases h with ⟨rfl, rfl⟩ | ⟨q, c, cs, rfl, _, hM, hb, _⟩
  · cases hg
  · obtain rfl := Option.some.inj hg
    exact ⟨hM, lt_of_block hb⟩
set_option maxHeartbeats 8000000 in
set_option maxRecDepth 100000 in
theorem flagPrints_any (wh : Int) (hw1 : -9223372036854775808 ≤ wh) (hw2 : wh ≤ 9223372036854775807) (pk : Option Addr) (nk ck : Nat) (l : List Ky) (hnk : l.length = nk) (hnk63 : nk ≤ 9223372036854775807) (hKi : ∀ x ∈ l, KyI x) (hKz : ∀ x ∈ l, Kz x)
    (pg : Option Addr) (ng cg : Nat) (g : List Gw) (hng : g.length = ng) (hng63 : ng ≤ 9223372036854775807) (hGz : ∀ x ∈ g, x.name.length ≤ 9223372036854775807 ∧ x.text.length ≤ 9223372036854775807) (w : World) (hK : Kys w (.slice pk nk ck) l) (hG : Gws w (.slice pg ng cg) g) (hV : Vlo w) :
    Calls Tryz.prog 4 #[.int .i64 wh, .slice pk nk ck, .slice pg ng cg] w fun e w' => e = .returned (.bool true) ∧ Below w.heap.size w w' := by
  have HV := Lib.hid fun W (h : Below w.heap.size w W) => hV.below h (Nat.le_refl _)
  have HK := Lib.hid hK
  have HG := Lib.hid hG
  have Hptr := Lib.hid hG.ptr.2.2
  have hmc := hG.ptr.2.1
  have Hnk := Lib.hid hnk
  have Hng := Lib.hid hng
  have HKi := Lib.hid hKi
  have HGz := Lib.hid hGz
  have HW1 := Lib.hid (weight7_any pk nk ck l hnk63 hKz w hK)
  clear hK hG hV hnk hng hKi hKz hGz
  go_enter Tryz.func4, Tryz.ntmps4
  go_wp2_with fail
  refine HW1.out.mono ?_
  rintro e w1 ⟨⟨N0, rfl, hN0, hN1, hNk⟩, hb1⟩
  have HNk := Lib.hid hNk
  have Hb1 := Lib.hid hb1
  clear hNk hb1 HW1
  go_wp2_with fail
  go_loopw [7, 8] (fun v i wr => ∃ (k : Nat) (N : Int), k ≤ ng ∧ i = .int .i64 k ∧ v = .int .i64 N ∧ 0 ≤ N ∧ N ≤ 2147483648 ∧ Hid (N ≤ 2147483647 → N0 ≤ N) ∧ Hid (Wg7 g k N) ∧ Hid (Below w.heap.size w wr)) (fun _ i _ => ng - (intOf i).toNat)
  case atStart => exact ⟨0, N0, by omega, rfl, rfl, by omega, by omega, Lib.hid (fun _ => Int.le_refl _), Lib.hid (fun _ => ⟨by omega, fun j x hj => by omega⟩), Hb1⟩
  case round =>
    clear hN0 hN1 Hb1
    obtain ⟨wo, rfl⟩ : ∃ wo, wo = wr := ⟨_, rfl⟩
    obtain ⟨k, N, hk, rfl, rfl, hN0, hN1, HNN, HW, Hb⟩ := hrel
    have hzo : w.heap.size ≤ wo.heap.size := Hb.out.size
    by_cases hgo : k < ng ∧ N ≤ 2147483647
    · obtain ⟨hlt, hNb⟩ := hgo
      have q1 : decide ((k : Int) < (ng : Int)) = true := by rw [decide_eq_true_iff]; omega
      have q2 : decide (k < ng) = true := by rw [decide_eq_true_iff]; omega
      have q3 : decide (N ≤ 2147483647) = true := by rw [decide_eq_true_iff]; omega
      obtain ⟨b, o, rfl, hbl⟩ := Hptr.out (by omega)
      obtain ⟨x, hx⟩ : ∃ x, g[k]? = some x := ⟨_, List.getElem?_eq_getElem (by rw [Hng.out]; exact hlt)⟩
      obtain ⟨e0, e1, e2⟩ := gw_cells (HG.out.later Hb.out) hx
      obtain ⟨z0, z1⟩ := HGz.out x (List.mem_of_getElem? hx)
      rw [← B_size] at z0 z1
      have hki : (k : Int) < (ng : Int) := by omega
      have hk5 : (0 : Int) ≤ (k : Int) := by omega
      have hbr : b < wo.heap.size := by omega
      have HXa := Lib.hid fun T hT hT0 => HW.out.next (T := T) hN0 hx hT hT0
      clear hx
      generalize B x.name = y1 at *
      generalize B x.text = y2 at *
      generalize x.pos = y3 at *
      have f1 := add7_nn (n := (y1.size : Int)) (m := 20) (by omega) (by omega)
      have f2 := add7_bd (y1.size : Int) 20
      have hT0 : (0 : Int) ≤ min (y2.size : Int) 2147483647 := by omega
      have hT1 : min (y2.size : Int) 2147483647 ≤ 2147483647 := by omega
      have hT := Lib.hid (HXa.out (min (y2.size : Int) 2147483647) (by omega) hT0)
      have f3 := add7_nn f1 (m := 4 * min (y2.size : Int) 2147483647) (by omega)
      have f4 := add7_bd (add7 (y1.size : Int) 20) (4 * min (y2.size : Int) 2147483647)
      have f5 := add7_nn hN0 f3
      have f6 : Hid (add7 N (add7 (add7 (y1.size : Int) 20) (4 * min (y2.size : Int) 2147483647)) ≤ 2147483647 → N0 ≤ add7 N (add7 (add7 (y1.size : Int) 20) (4 * min (y2.size : Int) 2147483647))) := Lib.hid (nn_step HNN.out f3)
      have hwr : IntKind.i64.wrap (4 * min (y2.size : Int) 2147483647) = 4 * min (y2.size : Int) 2147483647 := IntWalk.i64_in _ (by omega)
      have HQ1 := Lib.hid fun W => add_same (y1.size : Int) 20 W (by omega) (by omega) (by omega) (by omega)
      have HQ2 := Lib.hid fun W => add_same (add7 (y1.size : Int) 20) (4 * min (y2.size : Int) 2147483647) W (by omega) (by omega) (by omega) (by omega)
      have HQ3 := Lib.hid fun W => add_same N (add7 (add7 (y1.size : Int) 20) (4 * min (y2.size : Int) 2147483647)) W (by omega) (by omega) (by omega) (by omega)
      go_wp2_with fail
      go_quiet ((go_at_call 12; first | (with_reducible exact Calls.quiet_of_same (HQ1.out _)) | (with_reducible exact Calls.quiet_of_same (HQ2.out _)) | (with_reducible exact Calls.quiet_of_same (HQ3.out _))))
      go_wp2_with fail
      go_roundw
      case rel => exact ⟨k + 1, _, by omega, by go_num, rfl, f5, add7_bd _ _, f6, hT, Lib.hid (Hb.out.trans ((drewN_bel _ _).mono Hb.out.size))⟩
      case measure => simp [intOf]; omega
    · by_cases hbig : 134217727 < N
      · have r1 : decide (134217727 < N) = true := by rw [decide_eq_true_iff]; omega
        by_cases hlt : k < ng
        · have q1 : decide ((k : Int) < (ng : Int)) = true := by rw [decide_eq_true_iff]; omega
          have q2 : decide (k < ng) = true := by rw [decide_eq_true_iff]; omega
          have q3 : decide (N ≤ 2147483647) = false := by rw [decide_eq_false_iff_not]; omega
          go_wp2_with fail
          go_ret
          exact ⟨rfl, Hb.out⟩
        · have q1 : decide ((k : Int) < (ng : Int)) = false := by rw [decide_eq_false_iff_not]; omega
          have q2 : decide (k < ng) = false := by rw [decide_eq_false_iff_not]; omega
          go_wp2_with fail
          go_ret
          exact ⟨rfl, Hb.out⟩
      · have r1 : decide (134217727 < N) = false := by rw [decide_eq_false_iff_not]; omega
        have hkn : k = ng := by omega
        have q1 : decide ((k : Int) < (ng : Int)) = false := by rw [decide_eq_false_iff_not]; omega
        have q2 : decide (k < ng) = false := by rw [decide_eq_false_iff_not]; omega
        have HN0 := HNN.out (by omega)
        have hWk := HW.out (by omega)
        have hngN : ng ≤ 134217727 := by omega
        have Hgsz : Hid (Gsz g) := Lib.hid (HW.out.done (by rw [Hng.out]; omega) (by omega))
        have Hkok : Hid (∀ x ∈ l, KyOk x) := Lib.hid fun x hx => ky_ok (HKi.out x hx) (HNk.out (by omega) x hx) (by omega)
        have HAw := Lib.hid (awake7_any wo (HV.out _ Hb.out))
        clear hWk HN0 HW HNN HNk HKi HGz hgo hkn hN0 hN1 hbig hk
        go_wp2_with fail
        refine HAw.out.mono ?_
        rintro e w2 ⟨rfl, hb2⟩
        have Hb2 := Lib.hid (en.then_bel Hb.out hzo hb2)
        have hz2 : w.heap.size ≤ w2.heap.size := Hb2.out.size
        have HSets := Lib.hid (sets_any wh hw1 hw2 pk nk ck l Hnk.out hnk63 Hkok.out w2 (HK.out.later Hb2.out) (HV.out _ Hb2.out))
        clear hb2 HAw Hb hzo q1 q2 r1
        go_wp2_with fail
        refine HSets.out.mono ?_
        rintro e w3 ⟨⟨a, b, S, L, rfl, hS3, hR3, hA3⟩, hb3⟩
        dsimp only
        have HS3 := Lib.hid hS3
        have HR3 := Lib.hid hR3
        have HSl : Hid (L.length ≤ 4096) := Lib.hid (by rw [hA3.2]; have := hS3.len; omega)
        have Hb3 := Lib.hid (en.then_bel Hb2.out hz2 hb3)
        have hz3 : w.heap.size ≤ w3.heap.size := Hb3.out.size
        have Hout : Hid (outG L g = outG S g ∧ erG L g = erG S g ∧ (outG S g).length ≤ ng) := Lib.hid ⟨by unfold outG; rw [okG_alike hA3], by unfold erG; rw [okG_alike hA3], by rw [← Hng.out]; exact out_len S g⟩
        clear hS3 hR3 hA3 hb3 HSets Hb2 hz2
        have hmk := makeG ng (by omega) w3
        obtain ⟨w4, hw4⟩ : ∃ w4, w4 = w3.alloc (.cells (blanksG (ng + 1)) 35) := ⟨_, rfl⟩
        have hb34 : Below w3.heap.size w3 w4 := by rw [hw4]; exact (Below.refl _ _).alloc (Nat.le_refl _) _
        have hblk : w4.heap[w3.heap.size]? = some (.cells (blanksG (ng + 1)) 35 (0, 0)) := by rw [hw4]; exact heap_alloc_new w3 _
        obtain ⟨gb, hgb⟩ : ∃ gb, gb = w3.heap.size := ⟨_, rfl⟩
        obtain ⟨w5, hcopy, hO5, hb45, hz45⟩ := copy_g HG.out (by omega) hblk (en.then_bel Hb3.out hz3 hb34)
        have hb35 : Below w3.heap.size w3 w5 := hb34.trans hb45
        rw [hw4] at hcopy
        rw [← hgb] at hmk hcopy hO5
        have hgo : goInt (ng : Int) = .int .i64 ng := rfl
        have hgb5 : gb < w5.heap.size := hO5.lt
        obtain ⟨u, hu⟩ := hO5.last
        have hfr := hO5.free (ng * 3 + 2)
        obtain ⟨w6, hw6⟩ : ∃ w6, w6 = w5.setCell ⟨gb, ng * 3 + 2, none⟩ (.int .i64 (-7)) := ⟨_, rfl⟩
        obtain ⟨hO6, hL6⟩ := hO5.put (.int .i64 (-7))
        rw [← hw6] at hO6 hL6
        have HO6 := Lib.hid hO6
        have HL6 := Lib.hid hL6
        have hb36 : Below w3.heap.size w3 w6 := by rw [hw6]; exact hb35.setCell (p := ⟨gb, ng * 3 + 2, none⟩) (by rw [hgb]; exact Nat.le_refl _) _
        have Hb6 := Lib.hid (en.then_bel Hb3.out hz3 hb36)
        have HS6 := Lib.hid (HS3.out.later hb36)
        have HR6 := Lib.hid (HR3.out.later hb36)
        have hn0 : (0 : Int) ≤ (ng : Int) := by omega
        have hn1 : (ng : Int) < (ng : Int) + 1 := by omega
        have hn2 : (ng : Int) + 1 ≤ 9223372036854775807 := by omega
        have hwn : IntKind.i64.wrap ((ng : Int) + 1) = (ng : Int) + 1 := IntWalk.i64_in _ (by omega)
        have hnt : ((ng : Int) + 1).toNat = ng + 1 := by omega
        clear hw4 hb34 hblk hgb hb45 hz45 hb35 hO5 hO6 hL6 hb36 HS3 HR3 Hb3 hz3
        go_wp2_with fail
        rw [← hw6]
        clear hw6 hu hfr hcopy hmk hgo hgb5
        obtain ⟨er, Her⟩ : ∃ er, Hid (er = erG S g) := ⟨_, Lib.hid rfl⟩
        obtain ⟨no, Hno⟩ : ∃ no, Hid (no = (outG S g).length) := ⟨_, Lib.hid rfl⟩
        have HP1 := Lib.hid (prints_any w2.heap.size a S (some ⟨gb, 0, none⟩) ng (ng + 1) g Hng.out (by omega) Hgsz.out w6 HS6.out HO6.out.rows)
        rw [← Her.out] at HP1
        refine HP1.out.mono ?_
        rintro e w7 ⟨⟨v1, rfl, hv1⟩, hb7⟩
        obtain ⟨p1, c1, hp1⟩ := sts_form hv1
        have hown1 := sts_own hv1
        rw [← Hno.out] at hp1
        subst hp1
        dsimp only
        have hz6 : w.heap.size ≤ w6.heap.size := Hb6.out.size
        have Hb7 := Lib.hid (en.then_bel Hb6.out hz6 hb7)
        have HO7 := Lib.hid (HO6.out.later hb7)
        have HS7 := Lib.hid (HS6.out.later hb7)
        have HR7 := Lib.hid (HR6.out.later hb7)
        have HL7 := Lib.hid ((hb7.cell (p := ⟨gb, ng * 3 + 2, none⟩) HO6.out.lt).trans HL6.out)
        have HV1 := Lib.hid hv1
        have Hown1 := Lib.hid hown1
        have hz7 : w.heap.size ≤ w7.heap.size := Hb7.out.size
        have hz67 : w6.heap.size ≤ w7.heap.size := hb7.size
        have HP2 := Lib.hid (refPrints_any b L HSl.out pg ng cg g Hng.out (by omega) Hgsz.out w7 HR7.out (HG.out.later Hb7.out))
        rw [Hout.out.1, Hout.out.2.1] at HP2
        clear hb7 HP1 hv1 hown1 HO6 HS6 HR6 HL6 Hb6
        have hnog : no ≤ ng := by rw [Hno.out]; exact Hout.out.2.2
        rw [← Her.out] at HP2
        go_wp2_with fail
        refine HP2.out.mono ?_
        rintro e w8 ⟨⟨v2, rfl, hv2⟩, hb8⟩
        obtain ⟨p2, c2, hp2⟩ := sts_form hv2
        have hown2 := sts_own hv2
        rw [← Hno.out] at hp2
        subst hp2
        dsimp only
        have Hb8 := Lib.hid (en.then_bel Hb7.out hz7 hb8)
        have HO8 := Lib.hid (HO7.out.later hb8)
        have HS8 := Lib.hid (HS7.out.later hb8)
        have HL8 := Lib.hid ((hb8.cell (p := ⟨gb, ng * 3 + 2, none⟩) HO7.out.lt).trans HL7.out)
        have HV18 := Lib.hid (rw.NewRw.later HV1.out hb8)
        have HV2 := Lib.hid hv2
        have Hown2 := Lib.hid hown2
        have hz78 : w7.heap.size ≤ w8.heap.size := hb8.size
        have HP3 := Lib.hid (prints_any w2.heap.size a S (some ⟨gb, 0, none⟩) ng (ng + 1) g Hng.out (by omega) Hgsz.out w8 HS8.out HO8.out.rows)
        rw [← Her.out] at HP3
        clear hb8 HP2 hv2 hown2 HO7 HS7 HR7 HL7 Hb7 HV1
        go_wp2_with fail
        refine HP3.out.mono ?_
        rintro e w9 ⟨⟨v3, rfl, hv3⟩, hb9⟩
        obtain ⟨p3, c3, hp3⟩ := sts_form hv3
        have hown3 := sts_own hv3
        rw [← Hno.out] at hp3
        subst hp3
        dsimp only
        have hz8 : w.heap.size ≤ w8.heap.size := Hb8.out.size
        have Hb9 := Lib.hid (en.then_bel Hb8.out hz8 hb9)
        have HO9 := Lib.hid (HO8.out.later hb9)
        have HL9 := Lib.hid ((hb9.cell (p := ⟨gb, ng * 3 + 2, none⟩) HO8.out.lt).trans HL8.out)
        have HV19 := Lib.hid (rw.NewRw.later HV18.out hb9)
        have HV29 := Lib.hid (rw.NewRw.later HV2.out hb9)
        have HV3 := Lib.hid hv3
        have Hown3 := Lib.hid hown3
        have hz89 : w8.heap.size ≤ w9.heap.size := hb9.size
        have hz9 : w.heap.size ≤ w9.heap.size := Hb9.out.size
        clear hb9 HP3 hv3 hown3 HO8 HS8 HL8 Hb8 HV18 HV2
        have HT1 := Lib.hid (texts7_any p1 p2 no c1 c2 (outG S g) (by omega) w9 (rw.NewRw.rw stC_len HV19.out) (rw.NewRw.rw stC_len HV29.out))
        go_wp2_with fail
        refine HT1.out.mono ?_
        rintro e wA ⟨rfl, q1, hwA⟩
        have HbA : Hid (Below w9.heap.size w9 wA) := Lib.hid (by rw [hwA]; exact drewN_bel w9 q1)
        have HT2 := Lib.hid (texts7_any p3 p2 no c3 c2 (outG S g) (by omega) wA (rw.NewRw.rw stC_len (rw.NewRw.later HV3.out HbA.out)) (rw.NewRw.rw stC_len (rw.NewRw.later HV29.out HbA.out)))
        clear hwA HT1
        go_wp2_with fail
        refine HT2.out.mono ?_
        rintro e wB ⟨rfl, q2, hwB⟩
        have HbB : Hid (Below w9.heap.size w9 wB) := Lib.hid (by rw [hwB]; exact en.then_bel HbA.out HbA.out.size (drewN_bel wA q2))
        have HT3 := Lib.hid (givens7_any (some ⟨gb, 0, none⟩) pg ng (ng + 1) cg g (by omega) wB (HO9.out.later HbB.out).rows (HG.out.later (en.then_bel Hb9.out hz9 HbB.out)))
        clear hwB HT2 HbA
        go_wp2_with fail
        refine HT3.out.mono ?_
        rintro e wC ⟨rfl, q3, hwC⟩
        have hbC : Below w9.heap.size w9 wC := by rw [hwC]; exact en.then_bel HbB.out HbB.out.size (drewN_bel wB q3)
        have HbC := Lib.hid hbC
        have HbwC := Lib.hid (en.then_bel Hb9.out hz9 hbC)
        have l7 : wC.cell? ⟨gb, ng * 3 + 2, none⟩ = some (.int .i64 (-7)) := (hbC.cell (p := ⟨gb, ng * 3 + 2, none⟩) HO9.out.lt).trans HL9.out
        have hgC : gb < wC.heap.size := (HO9.out.later hbC).lt
        have HB1 : Hid (Blk 9 1 w6.heap.size wC (.slice p1 no c1) no (rw.flat stC (outG S g))) := Lib.hid (by rw [Hno.out]; exact Blk.of_new stC_len (by rw [← Hno.out]; exact HV19.out.later hbC))
        have HV2C := Lib.hid (HV29.out.later hbC)
        have HV3C := Lib.hid (HV3.out.later hbC)
        have s1 : (er == er) = true := by simp
        have s2 : (er != er) = false := by simp
        have hz6C : w6.heap.size ≤ wC.heap.size := by have := hbC.size; omega
        clear hwC HT3 HbB hbC HL9 HO9 HV19 HV29 HV3
        clear hn0 hn2 hwn hnt
        go_wp2_with fail
        go_loopw [23] (fun vi wr => ∃ i : Nat, i ≤ no ∧ vi = .int .i64 i ∧ Hid (∃ ys, Blk 9 1 w6.heap.size wr (.slice p1 no c1) no ys) ∧ Hid (Upd (Value.slice p1 no c1).ownBlock.toList wC wr)) (fun vi _ => no - (intOf vi).toNat)
        case atStart => exact ⟨0, by omega, rfl, Lib.hid ⟨_, HB1.out⟩, Lib.hid (Upd.refl _ _)⟩
        case round =>
          obtain ⟨wx, hwx⟩ : ∃ wx, wx = wr := ⟨_, rfl⟩
          subst hwx
          obtain ⟨i, hi, rfl, HBk, HU⟩ := hrel
          have hzx : wC.heap.size ≤ wx.heap.size := HU.out.size
          by_cases hlt : i < no
          · obtain ⟨ys, hys⟩ := HBk.out
            obtain ⟨g1, cs, rfl, hg1, hnc, hbk, hcs, htk⟩ := hys.at_ (by omega)
            have hi1 : (i : Int) < (no : Int) := by omega
            have hi0 : (0 : Int) ≤ (i : Int) := by omega
            have hg1x := lt_of_block hbk
            have HB2 : Hid (∃ ys, Blk 9 1 w6.heap.size (wx.setCell ⟨g1, i, none⟩ (.string ⟨#[111, 118, 101, 114]⟩)) (.slice (some ⟨g1, 0, none⟩) no c1) no ys) := Lib.hid (hys.sh (Sh.setCell hbk i _))
            have HU2 : Hid (Upd (Value.slice (some ⟨g1, 0, none⟩) no c1).ownBlock.toList wC (wx.setCell ⟨g1, i, none⟩ (.string ⟨#[111, 118, 101, 114]⟩))) := Lib.hid (HU.out.setCell (p := ⟨g1, i, none⟩) (.inl (by simp [Value.ownBlock])) _)
            obtain ⟨u, hu⟩ : ∃ u, wx.cell? ⟨g1, i, none⟩ = some u := ⟨_, by rw [cell_in hbk]; exact Array.getElem?_eq_getElem (show i < cs.size by omega)⟩
            have hfr := free_in (o := i) hbk
            clear hys hbk hcs htk
            go_wp2_with fail
            go_roundw
            case rel => exact ⟨i + 1, by omega, by go_num, HB2, HU2⟩
            case measure => simp [intOf]; omega
          · obtain ⟨ys, hys⟩ := HBk.out
            have q5 : decide ((i : Int) < (no : Int)) = false := by rw [decide_eq_false_iff_not]; omega
            have q6 : decide (i < no) = false := by rw [decide_eq_false_iff_not]; omega
            obtain ⟨i1, si, sz0, sz1, sz2⟩ := info_parts infoSt
            have hbA : Below wx.heap.size wx (wx.alloc (.cells #[.string ⟨#[111, 118, 101, 114]⟩] 9)) := (Below.refl _ _).alloc (Nat.le_refl _) _
            have HBA := Lib.hid (hys.later hbA)
            have HsrcA : Hid (SrcV (wx.alloc (.cells #[.string ⟨#[111, 118, 101, 114]⟩] 9)) (.slice (some ⟨wx.heap.size, 0, none⟩) 1 1) 1 (#[.string ⟨#[111, 118, 101, 114]⟩] : Array Value).toList) := Lib.hid (.inr ⟨by decide, _, _, rfl, fun j u hj => by
              rw [addN, cell_in (heap_alloc_new wx (.cells #[.string ⟨#[111, 118, 101, 114]⟩] 9)), Nat.zero_add]
              rwa [Array.getElem?_toList] at hj⟩)
            have HUA := Lib.hid (HU.out.alloc (.cells #[.string ⟨#[111, 118, 101, 114]⟩] 9))
            have Hoa : Hid (∀ u ∈ (#[.string ⟨#[111, 118, 101, 114]⟩] : Array Value).toList, u.oneCell' = true) := Lib.hid (by simp [Value.oneCell'])
            have hzA : w6.heap.size ≤ (wx.alloc (.cells #[.string ⟨#[111, 118, 101, 114]⟩] 9)).heap.size := by have := hbA.size; omega
            clear hys hbA
            focus
              go_wp2_with (at_builtin; go_must (refine wpList_append_blk rfl _ _ 38 rfl 9 i1 _ 1 16 Tryz.underlying38 si sz0 sz1 sz2 rfl (by decide) w6.heap.size _ no ys (by rfl) HBA.out _ 1 _ (by decide) (by rfl) HsrcA.out (by rfl) Hoa.out (by omega) (by omega) hzA ?_))
            intro p8 c8 wE _ hgE _
            have hUE := HUA.out.grown hgE (fun q hq => .inl (by rw [hq]; simp))
            have hbE : Below w6.heap.size wC wE := hUE.below (fun q hq => by
              have hq' : (Value.slice p1 no c1).ownBlock = some q := by simpa using hq
              exact (Hown1.out q hq').1) hz6C
            have HFE := Lib.hid (HbwC.out.trans (hbE.mono hz6))
            have HT4 := Lib.hid (texts7_any p3 p2 no c3 c2 (outG S g) (by omega) wE
              ((rw.NewRw.rw stC_len HV3C.out).upd hUE (fun q hq hm => by
                have hm' : (Value.slice p1 no c1).ownBlock = some q := by simpa using hm
                have h1 := (Hown1.out q hm').2
                have h2 := (Hown3.out q hq).1
                omega))
              ((rw.NewRw.rw stC_len HV2C.out).upd hUE (fun q hq hm => by
                have hm' : (Value.slice p1 no c1).ownBlock = some q := by simpa using hm
                have h1 := (Hown1.out q hm').2
                have h2 := (Hown2.out q hq).1
                omega)))
            have s3 : ((no : Int) + 1 == (no : Int) + 1) = true := by simp
            have s4 : (((no + 1 : Nat) : Int) == (no : Int) + 1) = true := by simp
            have hw9 : IntKind.i64.wrap ((no : Int) + 1) = (no : Int) + 1 := IntWalk.i64_in _ (by omega)
            clear hgE hUE hbE HUA HBA HsrcA Hoa hzA HBk HU
            go_wp2_with fail
            refine HT4.out.mono ?_
            rintro e wF ⟨rfl, q4, hwF⟩
            have HFF := Lib.hid (show Below w.heap.size w wF by rw [hwF]; exact HFE.out.trans ((drewN_bel wE q4).mono HFE.out.size))
            clear hwF HT4
            go_wp2_with fail
            go_ret
            exact ⟨rfl, HFF.out⟩
end Go.Proofs.YtpfhhaonfbfheaaGreatDoor.fl
