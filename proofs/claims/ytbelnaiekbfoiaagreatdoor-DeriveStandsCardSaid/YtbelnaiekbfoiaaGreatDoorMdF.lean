/- Laws and contracts on which the statement rests, part F: each text says what it proves, and its conditions. -/
import Derived.Test.YtbelnaiekbfoiaaGreatDoorMdE
import Derived.StillTailTactics
import Derived.Deep.DeepCutAuto
import Derived.Test.YtbelnaiekbfoiaaGreatDoorMdC
import Derived.Deep.RegionLaw
import Derived.Laws.StructEq
import Derived.BigQuiet
import Derived.Deep.QuietTactic
/- tinderboxlaw04.addsUp and valueWeighs return plain functions of numbers; what is not too great is bounded in each part. Conditions: the value's words lie in memory. -/
namespace Go.Proofs.YtbelnaiekbfoiaaGreatDoor.va
open Go.ChangeShapes Go.WideShapes Go.ChangeAt Go.RowKit gl

/-- What an argument's reading gives: no part is greater than memory. -/
structure Vh (v : Val) : Prop where
  int0 : -9223372036854775808 ≤ v.int
  int1 : v.int ≤ 9223372036854775807
  text : v.text.size ≤ 9223372036854775807
  words : v.words.length ≤ 9223372036854775807
  each : ∀ x ∈ v.words, x.size ≤ 9223372036854775807

def adds (n m : Int) : Int := if 2147483647 < n ∨ 2147483647 < m then 2147483648 else n + m
def wloop (n : Int) : List ByteArray → Int
  | [] => n
  | x :: r => if n ≤ 2147483647 then wloop (adds n x.size) r else n
def weighs (v : Val) : Int := wloop (adds v.text.size v.words.length) v.words
def sz (l : List ByteArray) : Nat := (l.map (·.size)).sum
theorem adds_bd {n m : Int} (hn : 0 ≤ n) (hm : 0 ≤ m) : 0 ≤ adds n m ∧ adds n m ≤ 4294967294 := by unfold adds; split <;> omega
theorem wloop_bd : ∀ (l : List ByteArray) (n : Int), 0 ≤ n → n ≤ 4294967294 → 0 ≤ wloop n l ∧ wloop n l ≤ 4294967294
  | [], n, h0, h1 => ⟨h0, h1⟩
  | x :: r, n, h0, h1 => by
    unfold wloop
    split
    · have := adds_bd h0 (show (0 : Int) ≤ x.size by omega)
      exact wloop_bd r _ this.1 this.2
    · exact ⟨h0, h1⟩
theorem weighs_bd (v : Val) : 0 ≤ weighs v ∧ weighs v ≤ 4294967294 := by
  have := adds_bd (show (0 : Int) ≤ v.text.size by omega) (show (0 : Int) ≤ v.words.length by omega)
  exact wloop_bd _ _ this.1 this.2
theorem wloop_le : ∀ (l : List ByteArray) (n : Int), 0 ≤ n → wloop n l ≤ 2147483647 → n + sz l ≤ 2147483647
  | [], n, _, h => by simpa [wloop, sz] using h
  | x :: r, n, h0, h => by
    unfold wloop at h
    split at h
    · rename_i hn
      have hb := adds_bd h0 (show (0 : Int) ≤ x.size by omega)
      have := wloop_le r _ hb.1 h
      have h1 : adds n x.size = n + x.size := by
        unfold adds
        rw [if_neg]
        intro hx
        unfold adds at this
        rw [if_pos hx] at this
        omega
      rw [h1] at this
      simp only [sz, List.map_cons, List.sum_cons] at this ⊢
      omega
    · omega
theorem sz_mem {l : List ByteArray} {x : ByteArray} (h : x ∈ l) : x.size ≤ sz l := by
  induction l with
  | nil => cases h
  | cons y r ih =>
    simp only [sz, List.map_cons, List.sum_cons]
    rcases List.mem_cons.1 h with rfl | h
    · omega
    · have := ih h
      simp only [sz] at this
      omega
theorem lens_sz (l : List ByteArray) : Lib.lens (l.map (·.data.toList)) = sz l := by
  unfold Lib.lens sz
  rw [List.map_map]
  congr 1
theorem joined_cons (x : ByteArray) (r : List ByteArray) : (joined (x :: r)).length = r.length + sz (x :: r) := by
  unfold joined
  rw [List.map_cons, Lib.join_length, ← List.map_cons (f := fun y : ByteArray => y.data.toList), lens_sz, List.length_map]
  show 1 * r.length + _ = _
  rw [Nat.one_mul]
theorem joined_len (l : List ByteArray) : (joined l).length ≤ l.length + sz l := by
  cases l with
  | nil => simp [joined, Lib.join]
  | cons x r =>
    rw [joined_cons]
    simp only [List.length_cons]
    omega
/-- What is not too great is bounded in each part. -/
theorem vb_of {v : Val} (hh : Vh v) (h : weighs v ≤ 2147483647) : Vb v := by
  have hb := adds_bd (show (0 : Int) ≤ v.text.size by omega) (show (0 : Int) ≤ v.words.length by omega)
  have h1 := wloop_le _ _ hb.1 h
  have h2 : adds v.text.size v.words.length = v.text.size + v.words.length := by
    unfold adds at h1 ⊢
    split
    · rename_i hx
      rw [if_pos hx] at h1
      omega
    · rfl
  rw [h2] at h1
  have hj := joined_len v.words
  exact ⟨hh.int0, hh.int1, by omega, by omega, fun x hx => by have := sz_mem hx; omega, by omega⟩

theorem len_dec : ∀ (k u : Nat), u < 10 ^ (k + 1) → (Lib.decDigits u).length ≤ k + 1
  | 0, u, h => by rw [decDigits_lt (by omega)]; simp
  | k + 1, u, h => by
    by_cases h10 : u < 10
    · rw [decDigits_lt h10]; simp
    · rw [decDigits_ge h10]
      have := len_dec k (u / 10) (by rw [Nat.pow_succ] at h; omega)
      simp
      omega
theorem itoa_len {n : Int} (h0 : -9223372036854775808 ≤ n) (h1 : n ≤ 9223372036854775807) : (Lib.itoa n).length ≤ 20 := by
  by_cases h : n < 0
  · rw [itoa_neg h]
    have := len_dec 18 n.natAbs (by omega)
    simp
    omega
  · rw [itoa_pos h]
    have := len_dec 18 n.toNat (by omega)
    omega
theorem wordL_is : IsWord wordL := by
  refine ⟨fun l h => ?_, fun l h hc => ?_, fun l h => ?_⟩
  · rintro rfl
    exact absurd h (by decide)
  · unfold wordL at h
    simp only [Bool.and_eq_true, List.all_eq_true] at h
    exact absurd (h.1 44 hc) (by decide)
  · unfold wordL at h
    simp only [Bool.and_eq_true, decide_eq_true_eq] at h
    exact h.2.2
/-- What may be is not too great. -/
theorem vb_right {v : Val} (h : right wordL v = true) : Vb v := by
  have hw : ∀ {ws : List ByteArray}, ws = [] → ws.length ≤ 2147483647 ∧ (∀ x ∈ ws, x.size ≤ 2147483647) ∧ (joined ws).length ≤ 140737488355328 := by
    rintro ws rfl
    exact ⟨by simp, by simp, by simp [joined, Lib.join]⟩
  rcases right_cases h with ⟨hk, h1, h2, h3, h4⟩ | ⟨hk, h1, h2, h3, h4⟩ | ⟨hk, h1, h2, h3, h4⟩ | ⟨hk, h1, h2, h3, h4⟩ | ⟨hk, h1, h2, h3, h4, h5⟩
  · exact ⟨by omega, by omega, by rw [h3]; decide, (hw h4).1, (hw h4).2.1, (hw h4).2.2⟩
  · exact ⟨by omega, by omega, by rw [h3]; decide, (hw h4).1, (hw h4).2.1, (hw h4).2.2⟩
  · have hm : most v.kind ≤ 1125899906842624 := by rcases hk with hk | hk <;> rw [hk] <;> decide
    exact ⟨by omega, by omega, by rw [h3]; decide, (hw h4).1, (hw h4).2.1, (hw h4).2.2⟩
  · exact ⟨by omega, by omega, by omega, (hw h4).1, (hw h4).2.1, (hw h4).2.2⟩
  · exact ⟨by omega, by omega, by rw [h2]; decide, by omega, fun x hx => by
      have := wordL_is.size _ (List.all_eq_true.1 h4 x hx)
      rw [← Lib.size_eq] at this
      omega, by omega⟩
theorem prints_len {v : Val} (h : right wordL v = true) : (prints v).length ≤ 200 := by
  rcases right_cases h with ⟨hk, h1, h2, h3, h4⟩ | ⟨hk, h1, h2, h3, h4⟩ | ⟨hk, h1, h2, h3, h4⟩ | ⟨hk, h1, h2, h3, h4⟩ | ⟨hk, h1, h2, h3, h4, h5⟩
  · unfold prints
    rw [if_pos hk]
    split <;> simp
  · unfold prints
    rw [if_neg (by omega), if_pos hk]
    have := itoa_len (n := v.int) (by omega) (by omega)
    omega
  · have hm : most v.kind ≤ 1125899906842624 := by rcases hk with hk | hk <;> rw [hk] <;> decide
    unfold prints
    rw [if_neg (by omega), if_neg (by omega), if_neg (by omega), if_neg (by omega)]
    have hu := unit_uname v.kind (best v.kind v.int) hk (best_le _ _)
    have hq0 : 0 ≤ v.int / unit v.kind (uname v.kind (best v.kind v.int)) := Int.ediv_nonneg h1 (by omega)
    have hq1 : v.int / unit v.kind (uname v.kind (best v.kind v.int)) ≤ v.int := by
      have h6 := Int.mul_le_mul_of_nonneg_left hu hq0
      have h7 := Int.ediv_mul_le v.int (b := unit v.kind (uname v.kind (best v.kind v.int))) (by omega)
      omega
    have := itoa_len (n := v.int / unit v.kind (uname v.kind (best v.kind v.int))) (by omega) (by omega)
    have := uname_len v.kind (best v.kind v.int)
    rw [List.length_append]
    omega
  · unfold prints
    rw [if_neg (by omega), if_neg (by omega), if_pos hk, ← Lib.size_eq]
    exact h2
  · unfold prints
    rw [if_neg (by omega), if_neg (by omega), if_neg (by omega), if_pos hk]
    exact h5
end Go.Proofs.YtbelnaiekbfoiaaGreatDoor.va
/- Package key: a set that takes a definition in. Conditions: texts of at most 2147483647 bytes; the listed variables hold what the program's text lays. -/
namespace Go.Proofs.YtbelnaiekbfoiaaGreatDoor.ky
open Go.ChangeShapes Go.WideShapes Go.ChangeAt Go.RowKit gl va ls

theorem New_any (w : World) : Calls Tryz.prog 36 #[] w fun e w' => e = .returned (.pointer (some ⟨w.heap.size, 0, none⟩)) ∧ SetK w.heap.size w' w.heap.size [] ∧ Below w.heap.size w w' := by
  obtain ⟨wA, hA⟩ : ∃ wA, wA = w.alloc (.cells #[.slice none 0 0] 151) := ⟨_, rfl⟩
  have kA : wA.heap[w.heap.size]? = some (.cells #[.slice none 0 0] 151 (0, 0)) := by rw [hA]; exact heap_alloc_new w _
  have HS : Hid (SetK w.heap.size wA w.heap.size []) := Lib.hid ⟨Nat.le_refl _, by decide, List.Pairwise.nil, (fun x h => nomatch h), ⟨.slice none 0 0, kA, rfl, .inl ⟨rfl, rfl⟩⟩⟩
  have Hb : Hid (Below w.heap.size w wA) := Lib.hid (by rw [hA]; exact (Below.refl _ _).alloc (Nat.le_refl _) _)
  have HA := Lib.hid hA
  clear hA kA
  go_enter Tryz.func36, Tryz.ntmps36
  go_wp2_with fail
  go_ret
  rw [← HA.out]
  exact ⟨rfl, HS.out, Hb.out⟩
theorem addE_form {S : List Ky} {x : Ky} (h : formL x = false) : addE S x = 50 := by unfold addE; rw [if_pos h]
theorem addE_dflt {S : List Ky} {x : Ky} (h : formL x = true) (h2 : dfltL x = false) : addE S x = 53 := by unfold addE; rw [if_neg (by rw [h]; simp), if_pos h2]
theorem addE_rest {S : List Ky} {x : Ky} (h : formL x = true) (h2 : dfltL x = true) : addE S x = if (findK S x.name).isSome then 51 else if (lettK S x.letter).isSome then 52 else if S.length = 64 then 54 else 0 := by unfold addE; rw [if_neg (by rw [h]; simp), if_neg (by rw [h2]; simp)]
theorem add_no {S : List Ky} {x : Ky} (h : addE S x ≠ 0) : addK S x = S := by unfold addK; rw [if_neg h]
theorem add_yes {S : List Ky} {x : Ky} (h : addE S x = 0) : addK S x = insK S x := by unfold addK; rw [if_pos h]
/-- The three ways of a default. -/
theorem dflt_ways (x : Ky) : ((parse wordL x.kind x.dflt).2 ≠ 0 ∧ dfltL x = false) ∨ ((parse wordL x.kind x.dflt).2 = 0 ∧ Vb (parse wordL x.kind x.dflt).1 ∧ dfltL x = within wordL (parse wordL x.kind x.dflt).1 x.least x.most) := by
  by_cases h : (parse wordL x.kind x.dflt).2 = 0
  · refine .inr ⟨h, vb_right (parse_right wordL_is (k := x.kind) (l := x.dflt) (by rw [← h])).1, ?_⟩
    unfold dfltL
    rw [decide_eq_true h, Bool.true_and]
  · refine .inl ⟨h, ?_⟩
    unfold dfltL
    rw [decide_eq_false h, Bool.false_and]
/-- A set that has taken one in. -/
theorem SetK.grown {M : Nat} {w w1 : World} {b k : Nat} {is : Bool} {S : List Ky} {x : Ky} {v v' : Value} (h : SetK M w b S) (hx : KyOk x) (hF : FoundAt (S.map (·.name)) x.name k is) (hn : findK S x.name = none) (hlen : S.length ≠ 64)
    (hv : w.heap[b]? = some (.cells #[v] 151 (0, 0))) (hB : Blk 79 6 M w v S.length (rw.flat kyC S)) (hB' : Blk 79 6 M w1 v' (S.length + 1) (rw.flat kyC (S.take k ++ x :: S.drop k))) (hg : w.grownBy w1 v.ownBlock) :
    SetK M (w1.setCell ⟨b, 0, none⟩ v') b (insK S x) ∧ w1.heap[b]? = some (.cells #[v] 151 (0, 0)) := by
  have hb1 : w1.heap[b]? = some (.cells #[v] 151 (0, 0)) := by
    refine (hg.block b (lt_of_block hv) ?_).trans hv
    intro hh
    rcases hB.2 with ⟨rfl, _⟩ | ⟨g, c, cs, rfl, _, _, hb, _⟩
    · cases hh
    · obtain rfl := Option.some.inj hh
      rw [hv] at hb
      cases hb
  have hi := ins_at hF
  have hil : (insK S x).length = S.length + 1 := by
    rw [hi]
    simp only [List.length_append, List.length_take, List.length_cons, List.length_drop]
    have := hF.1
    rw [List.length_map] at this
    omega
  refine ⟨⟨h.lo, by have := h.len; omega, ins_asc h.asc hF hn, fun y hy => ?_, ⟨v', heap_set (o := 0) hb1 v', ?_⟩⟩, hb1⟩
  · rw [hi] at hy
    rcases List.mem_append.1 hy with hy | hy
    · exact h.ok y (List.mem_of_mem_take hy)
    · rcases List.mem_cons.1 hy with rfl | hy
      · exact hx
      · exact h.ok y (List.mem_of_mem_drop hy)
  · rw [hil, hi]
    refine ⟨hB'.1, ?_⟩
    rcases hB'.2 with h1 | ⟨g, c, cs, e, h1, h2, h3, h4⟩
    · exact .inl h1
    · refine .inr ⟨g, c, cs, e, h1, h2, ?_, h4⟩
      have hne : g ≠ b := by
        rintro rfl
        rw [hb1] at h3
        cases h3
      exact heap_set_ne h3 v' hne
end Go.Proofs.YtbelnaiekbfoiaaGreatDoor.ky
/- Package key: Add. Conditions: texts of at most 2147483647 bytes; the listed variables hold what the program's text lays. -/
namespace Go.Proofs.YtbelnaiekbfoiaaGreatDoor.ky
open Go.ChangeShapes Go.WideShapes Go.ChangeAt Go.RowKit gl va ls

theorem go_name {K : Act → World → Prop} {a : Act} {W : World} (h : ∀ W', W' = W → K a W') : K a W := h W rfl
theorem foundV_form (o : Option Ky) : foundV o = .tuple #[.agg #[.string (B (o.getD zK).name), .int .i64 (o.getD zK).kind, .string (B (o.getD zK).dflt), .int .i64 (o.getD zK).least, .int .i64 (o.getD zK).most, .string (B (o.getD zK).letter)], .bool o.isSome] := by cases o <;> rfl
theorem egIns (args : Array Value) (w : World) : (callFunc 87 args).run Tryz.prog w = .ok (.enter 87 args) w := enters Tryz.func87 (by kernel_rfl) (by kernel_rfl) args w

set_option maxHeartbeats 4000000 in
set_option maxRecDepth 100000 in
theorem Add_any (M b : Nat) (S : List Ky) (x : Ky) (w : World) (hS : SetK M w b S) (hx : KyOk x) (hM : M ≤ w.heap.size) (hV : Vlo w) :
    Calls Tryz.prog 38 #[.pointer (some ⟨b, 0, none⟩), .agg #[.string (B x.name), .int .i64 x.kind, .string (B x.dflt), .int .i64 x.least, .int .i64 x.most, .string (B x.letter)]] w fun e w' => e = .returned (.int .i64 (addE S x)) ∧ SetK M w' b (addK S x) ∧ Below M w w' := by
  obtain ⟨wA, hA⟩ : ∃ wA, wA = w.alloc (.cells #[.string (B x.name), .int .i64 x.kind, .string (B x.dflt), .int .i64 x.least, .int .i64 x.most, .string (B x.letter)] 79) := ⟨_, rfl⟩
  have kA : wA.heap[w.heap.size]? = some (.cells #[.string (B x.name), .int .i64 x.kind, .string (B x.dflt), .int .i64 x.least, .int .i64 x.most, .string (B x.letter)] 79 (0, 0)) := by rw [hA]; exact heap_alloc_new w _
  have hbA : Below w.heap.size w wA := by rw [hA]; exact (Below.refl _ _).alloc (Nat.le_refl _) _
  have HS := Lib.hid hS
  have HX := Lib.hid hx
  have HF := Lib.hid fun (W : World) (hW : Below w.heap.size w W) => formed_any x hx W ((hV.below hW (Nat.le_refl _)).glo)
  have HP : Hid (∀ (W : World), Below w.heap.size w W → ∀ {a bb : Int} {t : ByteArray} {ws : List ByteArray} {er : Int}, parse wordL x.kind x.dflt = (⟨a, bb, t, ws⟩, er) → Calls Tryz.prog 71 #[.int .i64 x.kind, .string (B x.dflt)] W fun e w' => (∃ (p : Option Addr) (n c : Nat), e = .returned (.tuple #[.agg #[.int .i64 a, .int .i64 bb, .string t, .slice p n c], .int .i64 er]) ∧ Strs w' (.slice p n c) ws ∧ n = ws.length) ∧ Below W.heap.size W w') := Lib.hid fun W hW a bb t ws er h => parsed x.kind (B x.dflt) (by rw [show (B x.dflt).size = x.dflt.length by simp [ByteArray.size]]; exact hx.2.1) (by rw [B_list]; exact h) W (hV.below hW (Nat.le_refl _))
  have HVl := Lib.hid fun (W : World) (hW : Below w.heap.size w W) => hV.below hW (Nat.le_refl _)
  have HFo := Lib.hid fun (W : World) (hW : Below w.heap.size w W) => found_any M b S x.name W (hS.later hW)
  have HLe : Hid (∀ (W : World), Below w.heap.size w W → Calls Tryz.prog 86 #[.pointer (some ⟨b, 0, none⟩), .string (B x.letter)] W fun e w' => e = .returned (.tuple #[.agg #[.string (B ((lettK S x.letter).getD zK).name), .int .i64 ((lettK S x.letter).getD zK).kind, .string (B ((lettK S x.letter).getD zK).dflt), .int .i64 ((lettK S x.letter).getD zK).least, .int .i64 ((lettK S x.letter).getD zK).most, .string (B ((lettK S x.letter).getD zK).letter)], .bool (lettK S x.letter).isSome]) ∧ Below W.heap.size W w') := Lib.hid fun W hW => by
    have h := Letter_any M b S x.letter W (hS.later hW)
    rw [foundV_form] at h
    exact h
  have HkA := Lib.hid kA
  have HbA := Lib.hid hbA
  have HA := Lib.hid hA
  have E1 := Lib.hid (@addE_form S x)
  have E2 := Lib.hid (@addE_dflt S x)
  have E3 := Lib.hid (@addE_rest S x)
  have N1 := Lib.hid (@add_no S x)
  have HD := Lib.hid (dflt_ways x)
  have HMw := Lib.hid hM
  have hbw := hS.lt
  have Hne : Hid (∀ W, Below w.heap.size w W → addE S x ≠ 0 → SetK M W b (addK S x) ∧ Below M w W) := Lib.hid fun W hW hn => by
    rw [add_no hn]
    exact ⟨hS.later hW, hW.mono hM⟩
  clear kA hbA hA hV hx hS
  generalize (lettK S x.letter).getD zK = yl at *
  obtain ⟨r, hr⟩ : ∃ r, parse wordL x.kind x.dflt = r := ⟨_, rfl⟩
  obtain ⟨⟨ra, rb, rt, rw_⟩, er⟩ := r
  have HPr := Lib.hid fun W hW => HP.out W hW hr
  rw [hr] at HD
  dsimp only at HD
  clear hr HP
  obtain ⟨nm, hnm⟩ : ∃ nm, nm = B x.name := ⟨_, rfl⟩
  obtain ⟨df, hdf⟩ : ∃ df, df = B x.dflt := ⟨_, rfl⟩
  obtain ⟨lt, hlt⟩ : ∃ lt, lt = B x.letter := ⟨_, rfl⟩
  have Hnm := Lib.hid hnm
  have Hdf := Lib.hid hdf
  have Hlt := Lib.hid hlt
  rw [← hnm, ← hdf, ← hlt] at HF HkA HA
  rw [← hnm] at HFo
  rw [← hdf] at HPr
  rw [← hlt] at HLe
  rw [← hnm, ← hdf, ← hlt]
  clear hnm hdf hlt
  go_enter Tryz.func38, Tryz.ntmps38
  go_wp2_with fail
  rw [← HA.out]
  refine (HF.out _ HbA.out).mono ?_
  rintro e w1 ⟨rfl, hb1⟩
  have Hb1 := Lib.hid (then_bel HbA.out hb1)
  have hk1 := (hb1.block _ (lt_of_block HkA.out)).trans HkA.out
  have a1 : w1.cell? ⟨w.heap.size, 1, none⟩ = some (.int .i64 x.kind) := cell_in hk1
  have a2 : w1.cell? ⟨w.heap.size, 2, none⟩ = some (.string df) := cell_in hk1
  have hgw1 : w.heap.size < w1.heap.size := lt_of_block hk1
  have Hk1 := Lib.hid hk1
  clear hb1 hk1
  obtain ⟨fx, hfx⟩ : ∃ fx, formL x = fx := ⟨_, rfl⟩
  rw [hfx]
  have Hfx := Lib.hid hfx
  clear hfx
  cases fx with
  | false =>
    have he := Lib.hid (E1.out Hfx.out)
    go_wp2_with fail
    go_ret
    refine ⟨by rw [he.out]; rfl, Hne.out _ Hb1.out (by rw [he.out]; decide)⟩
  | true =>
    go_wp2_with fail
    refine (HPr.out _ Hb1.out).mono ?_
    rintro e w2 ⟨⟨p, n, c, rfl, hst, hn⟩, hb2⟩
    have Hst := Lib.hid hst
    have Hb2 := Lib.hid (then_bel Hb1.out hb2)
    have hk2 := (hb2.block _ (lt_of_block Hk1.out)).trans Hk1.out
    have a0 : w2.cell? ⟨w.heap.size, 0, none⟩ = some (.string nm) := cell_in hk2
    have a3 : w2.cell? ⟨w.heap.size, 3, none⟩ = some (.int .i64 x.least) := cell_in hk2
    have a4 : w2.cell? ⟨w.heap.size, 4, none⟩ = some (.int .i64 x.most) := cell_in hk2
    have hgw2 : w.heap.size < w2.heap.size := lt_of_block hk2
    have Hk2 := Lib.hid hk2
    clear hb2 hk2 a1 a2 hst hn
    rcases HD.out with ⟨her, hd⟩ | ⟨her, hvb, hd⟩
    · have he := Lib.hid (E2.out Hfx.out hd)
      have q1 : (er == 0) = false := by simpa using her
      have q2 : (er != 0) = true := by simpa using her
      clear hd her
      go_wp2_with fail
      go_ret
      refine ⟨by rw [he.out]; rfl, Hne.out _ ?_ (by rw [he.out]; decide)⟩
      repeat (first | exact Hb2.out | refine Below.setCell ?_ (by simp only; omega) _ | refine Below.alloc ?_ (by omega) _)
    · subst her
      have HWi : Hid (∀ W, Below w2.heap.size w2 W → Calls Tryz.prog 84 #[.agg #[.int .i64 ra, .int .i64 rb, .string rt, .slice p n c], .int .i64 x.least, .int .i64 x.most] W fun e w' => e = .returned (.bool (dfltL x)) ∧ Below w2.heap.size w2 w') := Lib.hid fun W hW => by
        refine (Within_any ⟨ra, rb, rt, rw_⟩ hvb x.least x.most (.slice p n c) W (HVl.out _ (then_bel Hb2.out hW)) (Hst.out.below hW (Nat.le_refl _))).mono fun e w' h => ?_
        exact ⟨by rw [hd]; exact h.1, then_bel hW h.2⟩
      clear hd hvb
      go_wp2_with fail
      refine (HWi.out _ (by repeat (first | exact Below.refl _ _ | refine Below.setCell ?_ (by simp only; omega) _ | refine Below.alloc ?_ (by simp) _))).mono ?_
      rintro e w4 ⟨rfl, hb4⟩
      have Hb4 := Lib.hid (then_bel Hb2.out hb4)
      have hk4 := (hb4.block _ (lt_of_block Hk2.out)).trans Hk2.out
      have d0 : w4.cell? ⟨w.heap.size, 0, none⟩ = some (.string nm) := cell_in hk4
      have hgw4 : w.heap.size < w4.heap.size := lt_of_block hk4
      have Hk4 := Lib.hid hk4
      clear hb4 hk4 a0 a3 a4 HWi
      obtain ⟨dx, hdx⟩ : ∃ dx, dfltL x = dx := ⟨_, rfl⟩
      rw [hdx]
      have Hdx := Lib.hid hdx
      clear hdx
      cases dx with
      | false =>
        have he := Lib.hid (E2.out Hfx.out Hdx.out)
        go_wp2_with fail
        go_ret
        exact ⟨by rw [he.out]; rfl, Hne.out _ Hb4.out (by rw [he.out]; decide)⟩
      | true =>
        have he3 := Lib.hid (E3.out Hfx.out Hdx.out)
        go_wp2_with fail
        refine (HFo.out _ Hb4.out).mono ?_
        rintro e w5 ⟨⟨k, is, rfl, hFnd⟩, hb5⟩
        have HFnd := Lib.hid hFnd
        have Hff := Lib.hid (found_find HS.out.asc hFnd)
        have Hb5 := Lib.hid (then_bel Hb4.out hb5)
        have hk5 := (hb5.block _ (lt_of_block Hk4.out)).trans Hk4.out
        have d5 : w5.cell? ⟨w.heap.size, 5, none⟩ = some (.string lt) := cell_in hk5
        have hgw5 : w.heap.size < w5.heap.size := lt_of_block hk5
        have Hk5 := Lib.hid hk5
        clear hb5 hk5 d0 hFnd
        go_wp2_with fail
        refine (HLe.out _ Hb5.out).mono ?_
        rintro e w6 ⟨rfl, hb6⟩
        have Hb6 := Lib.hid (then_bel Hb5.out hb6)
        have hk6 := (hb6.block _ (lt_of_block Hk5.out)).trans Hk5.out
        have hgw6 : w.heap.size < w6.heap.size := lt_of_block hk6
        have Hk6 := Lib.hid hk6
        clear hb6 hk6 d5
        obtain ⟨p7, c7, hset6, _⟩ := (HS.out.later Hb6.out).form
        have s6 : w6.cell? ⟨b, 0, none⟩ = some (.slice p7 S.length c7) := cell_in hset6
        have hbw6 : b < w6.heap.size := lt_of_block hset6
        clear hset6
        obtain ⟨lx, hlx⟩ : ∃ lx, (lettK S x.letter).isSome = lx := ⟨_, rfl⟩
        rw [hlx]
        have Hlx := Lib.hid hlx
        clear hlx
        cases is with
        | true =>
          have he : Hid (addE S x = 51) := Lib.hid (by
            obtain ⟨y, _, hf⟩ := Hff.out.1 rfl
            rw [he3.out, hf]; rfl)
          go_wp2_with fail
          go_ret
          refine ⟨by rw [he.out]; rfl, Hne.out _ ?_ (by rw [he.out]; decide)⟩
          repeat (first | exact Hb6.out | refine Below.setCell ?_ (by simp only; omega) _ | refine Below.alloc ?_ (by omega) _)
        | false =>
          have Hnone := Lib.hid (Hff.out.2 rfl)
          cases lx with
          | true =>
            have he : Hid (addE S x = 52) := Lib.hid (by rw [he3.out, Hnone.out, Hlx.out]; rfl)
            go_wp2_with fail
            go_ret
            refine ⟨by rw [he.out]; rfl, Hne.out _ ?_ (by rw [he.out]; decide)⟩
            repeat (first | exact Hb6.out | refine Below.setCell ?_ (by simp only; omega) _ | refine Below.alloc ?_ (by omega) _)
          | false =>
            by_cases hlen : S.length = 64
            · have he : Hid (addE S x = 54) := Lib.hid (by rw [he3.out, Hnone.out, Hlx.out, if_pos hlen]; rfl)
              have q1 : ((S.length : Int) == 64) = true := by rw [hlen]; rfl
              clear hlen
              go_wp2_with fail
              go_ret
              refine ⟨by rw [he.out]; rfl, Hne.out _ ?_ (by rw [he.out]; decide)⟩
              repeat (first | exact Hb6.out | refine Below.setCell ?_ (by simp only; omega) _ | refine Below.alloc ?_ (by omega) _)
            · have he : Hid (addE S x = 0) := Lib.hid (by rw [he3.out, Hnone.out, Hlx.out, if_neg hlen]; rfl)
              have q1 : ((S.length : Int) == 64) = false := by simp; omega
              have Hlen := Lib.hid hlen
              clear hlen
              go_upto_region 14 with fail
              refine go_name (fun w7 hw7 => ?_)
              have hb7 : Below w6.heap.size w6 w7 := by
                rw [hw7]
                repeat (first | exact Below.refl _ _ | refine Below.setCell ?_ (by simp only; omega) _ | refine Below.alloc ?_ (by simp) _)
              clear hw7 s6
              have Hb7 := Lib.hid (then_bel Hb6.out hb7)
              have hk7 := (hb7.block _ (lt_of_block Hk6.out)).trans Hk6.out
              obtain ⟨_, _, _, _, v7, hv7, hB7⟩ := HS.out.later Hb7.out
              obtain ⟨q7, r7, rfl⟩ := hB7.form
              have s7 : w7.cell? ⟨b, 0, none⟩ = some (.slice q7 S.length r7) := cell_in hv7
              have hbw7 : b < w7.heap.size := lt_of_block hv7
              have m0 : w7.cell? ⟨w.heap.size, 0, none⟩ = some (.string nm) := cell_in hk7
              have m1 : w7.cell? ⟨w.heap.size, 1, none⟩ = some (.int .i64 x.kind) := cell_in hk7
              have m2 : w7.cell? ⟨w.heap.size, 2, none⟩ = some (.string df) := cell_in hk7
              have m3 : w7.cell? ⟨w.heap.size, 3, none⟩ = some (.int .i64 x.least) := cell_in hk7
              have m4 : w7.cell? ⟨w.heap.size, 4, none⟩ = some (.int .i64 x.most) := cell_in hk7
              have m5 : w7.cell? ⟨w.heap.size, 5, none⟩ = some (.string lt) := cell_in hk7
              have hgw7 : w.heap.size < w7.heap.size := lt_of_block hk7
              have HIns : Hid (∀ W, Below w7.heap.size w7 W → W.heap[w7.heap.size]? = some (.cells #[.string nm, .int .i64 x.kind, .string df, .int .i64 x.least, .int .i64 x.most, .string lt] 79 (0, 0)) →
                  Calls Tryz.prog 87 #[.slice q7 S.length r7, .int .i64 (k : Nat), .slice (some ⟨w7.heap.size, 0, none⟩) 1 1] W fun e w' => ∃ v', e = .returned v' ∧ ((∃ pp nn cc, v' = .slice pp nn cc) ∧ SetK M (w'.setCell ⟨b, 0, none⟩ v') b (insK S x) ∧ w'.heap[b]? = some (.cells #[.slice q7 S.length r7] 151 (0, 0)) ∧ Below M w w')) := Lib.hid fun W hW hlit => by
                have hSW := HS.out.later (then_bel Hb7.out hW)
                have hvW := (hW.block _ (lt_of_block hv7)).trans hv7
                have hBW := hB7.later hW
                have hMW : M ≤ W.heap.size := by have := hW.size; have := HMw.out; omega
                have hkl : k ≤ S.length := by have := HFnd.out.1; rwa [List.length_map] at this
                rw [Hnm.out, Hdf.out, Hlt.out] at hlit
                refine (insert_any M _ S k hkl x w7.heap.size HS.out.len W hMW hBW hlit (fun q hq => ?_)).mono ?_
                · rcases hB7.2 with ⟨h, _⟩ | ⟨g, c, cs, h, _, _, hb, _⟩
                  · rw [h] at hq; cases hq
                  · rw [h] at hq
                    obtain rfl := Option.some.inj hq
                    have := lt_of_block hb
                    show w7.heap.size ≠ g
                    omega
                · rintro e w' ⟨v', rfl, hB', hg'⟩
                  obtain ⟨h1, h2⟩ := hSW.grown HX.out HFnd.out Hnone.out Hlen.out hvW hBW hB' hg'
                  obtain ⟨pp, cc, rfl⟩ := hB'.form
                  refine ⟨_, rfl, ⟨pp, _, cc, rfl⟩, h1, h2, ?_⟩
                  have hbMW : Below M w W := (then_bel Hb7.out hW).mono HMw.out
                  refine hbMW.trans ⟨hg'.os, hg'.tape, hg'.output, hg'.size, fun j hj => hg'.block j (by omega) fun hh => ?_⟩
                  rcases hBW.2 with ⟨h, _⟩ | ⟨g, c, cs, h, _, hMg, _, _⟩
                  · rw [h] at hh; cases hh
                  · rw [h] at hh
                    have e' : j = g := Option.some.inj hh
                    omega
              clear hb7 hk7 hv7 hB7
              go_region_law
                (first
                  | (refine step_callE (by rfl) 87 _ _ (by rfl) egIns _ (by rfl) _ (HIns.out _ (by first | exact ((Below.refl _ _).alloc (Nat.le_refl _) _).drew | exact (Below.refl _ _).alloc (Nat.le_refl _) _ | exact (Below.refl _ _).drew.alloc (Nat.le_refl _) _) (by exact heap_alloc_new w7 _)) ?_; rintro v' w8 ⟨⟨pp, nn, cc, rfl⟩, hs8, hb8, hbel8⟩; have e8 : w8.cell? ⟨b, 0, none⟩ = some (.slice q7 S.length r7) := cell_in hb8; have f8 : w8.frozen? ⟨b, 0, none⟩ = false := free_in hb8; have l8 : b < w8.heap.size := lt_of_block hb8; have Hs8 := Lib.hid hs8; have Hbel8 := Lib.hid hbel8; clear hs8 hbel8 hb8)
                  | fail)
              all_goals
                go_wp2_with fail
                go_ret
                refine ⟨by rw [he.out]; rfl, ?_, ?_⟩
                · rw [add_yes he.out]; exact Hs8.out
                · exact Hbel8.out.setCell (p := ⟨b, 0, none⟩) HS.out.lo _
end Go.Proofs.YtbelnaiekbfoiaaGreatDoor.ky
/- Package key: the lists that stand, a set of several lists, the standard set. Conditions: the listed variables hold what the program's text lays. -/
namespace Go.Proofs.YtbelnaiekbfoiaaGreatDoor.ky
open Go.ChangeShapes Go.WideShapes Go.ChangeAt Go.RowKit gl va ls

theorem kys_lit {w : World} {g : Nat} {l : List Ky} {cs : Array Value} (h : w.heap[g]? = some (.cells cs 79 (0, 0))) (hc : cs.toList = rw.flat kyC l) : Kys w (.slice (some ⟨g, 0, none⟩) l.length l.length) l := by
  refine ⟨_, _, rfl, Nat.le_refl _, .inr ⟨g, 0, rfl, lt_of_block h, fun j x hx i u hu => ?_⟩⟩
  rw [cell_in h, Nat.zero_add, ← Array.getElem?_toList, hc]
  exact rw.flat_at kyC_len l j x i u hx hu
set_option maxRecDepth 100000 in
theorem log_any (w : World) : Calls Tryz.prog 74 #[] w fun e w' => (∃ p, e = .returned (.slice p 3 3) ∧ Kys w' (.slice p 3 3) logK) ∧ Below w.heap.size w w' := by
  have Hb : Hid (Below w.heap.size w (w.alloc (.cells #[.string ⟨#[108, 111, 103, 46, 102, 105, 108, 101]⟩, .int .i64 5, .string ⟨#[36, 123, 115, 116, 111, 114, 101, 46, 100, 105, 114, 125, 47, 108, 111, 103]⟩, .int .i64 0, .int .i64 0, .string ⟨#[]⟩, .string ⟨#[108, 111, 103, 46, 107, 101, 101, 112]⟩, .int .i64 4, .string ⟨#[55, 100]⟩, .int .i64 1, .int .i64 2592000, .string ⟨#[]⟩, .string ⟨#[108, 111, 103, 46, 108, 101, 118, 101, 108]⟩, .int .i64 2, .string ⟨#[50]⟩, .int .i64 0, .int .i64 5, .string ⟨#[118]⟩] 79))) := Lib.hid ((Below.refl _ _).alloc (Nat.le_refl _) _)
  have HK : Hid (Kys (w.alloc (.cells #[.string ⟨#[108, 111, 103, 46, 102, 105, 108, 101]⟩, .int .i64 5, .string ⟨#[36, 123, 115, 116, 111, 114, 101, 46, 100, 105, 114, 125, 47, 108, 111, 103]⟩, .int .i64 0, .int .i64 0, .string ⟨#[]⟩, .string ⟨#[108, 111, 103, 46, 107, 101, 101, 112]⟩, .int .i64 4, .string ⟨#[55, 100]⟩, .int .i64 1, .int .i64 2592000, .string ⟨#[]⟩, .string ⟨#[108, 111, 103, 46, 108, 101, 118, 101, 108]⟩, .int .i64 2, .string ⟨#[50]⟩, .int .i64 0, .int .i64 5, .string ⟨#[118]⟩] 79)) (.slice (some ⟨w.heap.size, 0, none⟩) 3 3) logK) := Lib.hid (kys_lit (l := logK) (heap_alloc_new w _) rfl)
  go_enter Tryz.func74, Tryz.ntmps74
  go_wp2_with fail
  go_ret
  exact ⟨⟨_, rfl, HK.out⟩, Hb.out⟩
set_option maxRecDepth 100000 in
theorem net_any (w : World) : Calls Tryz.prog 75 #[] w fun e w' => (∃ p, e = .returned (.slice p 5 5) ∧ Kys w' (.slice p 5 5) netK) ∧ Below w.heap.size w w' := by
  have Hb : Hid (Below w.heap.size w (w.alloc (.cells #[.string ⟨#[110, 101, 116, 46, 104, 111, 115, 116]⟩, .int .i64 5, .string ⟨#[108, 111, 99, 97, 108, 104, 111, 115, 116]⟩, .int .i64 0, .int .i64 0, .string ⟨#[]⟩, .string ⟨#[110, 101, 116, 46, 112, 101, 101, 114, 115]⟩, .int .i64 6, .string ⟨#[]⟩, .int .i64 0, .int .i64 16, .string ⟨#[]⟩, .string ⟨#[110, 101, 116, 46, 112, 111, 114, 116]⟩, .int .i64 2, .string ⟨#[56, 48, 56, 48]⟩, .int .i64 1, .int .i64 65535, .string ⟨#[112]⟩, .string ⟨#[110, 101, 116, 46, 116, 105, 109, 101, 111, 117, 116]⟩, .int .i64 4, .string ⟨#[51, 48, 115]⟩, .int .i64 1, .int .i64 3600, .string ⟨#[]⟩, .string ⟨#[110, 101, 116, 46, 117, 114, 108]⟩, .int .i64 5, .string ⟨#[104, 116, 116, 112, 58, 47, 47, 36, 123, 110, 101, 116, 46, 104, 111, 115, 116, 125, 58, 36, 123, 110, 101, 116, 46, 112, 111, 114, 116, 125]⟩, .int .i64 0, .int .i64 0, .string ⟨#[]⟩] 79))) := Lib.hid ((Below.refl _ _).alloc (Nat.le_refl _) _)
  have HK : Hid (Kys (w.alloc (.cells #[.string ⟨#[110, 101, 116, 46, 104, 111, 115, 116]⟩, .int .i64 5, .string ⟨#[108, 111, 99, 97, 108, 104, 111, 115, 116]⟩, .int .i64 0, .int .i64 0, .string ⟨#[]⟩, .string ⟨#[110, 101, 116, 46, 112, 101, 101, 114, 115]⟩, .int .i64 6, .string ⟨#[]⟩, .int .i64 0, .int .i64 16, .string ⟨#[]⟩, .string ⟨#[110, 101, 116, 46, 112, 111, 114, 116]⟩, .int .i64 2, .string ⟨#[56, 48, 56, 48]⟩, .int .i64 1, .int .i64 65535, .string ⟨#[112]⟩, .string ⟨#[110, 101, 116, 46, 116, 105, 109, 101, 111, 117, 116]⟩, .int .i64 4, .string ⟨#[51, 48, 115]⟩, .int .i64 1, .int .i64 3600, .string ⟨#[]⟩, .string ⟨#[110, 101, 116, 46, 117, 114, 108]⟩, .int .i64 5, .string ⟨#[104, 116, 116, 112, 58, 47, 47, 36, 123, 110, 101, 116, 46, 104, 111, 115, 116, 125, 58, 36, 123, 110, 101, 116, 46, 112, 111, 114, 116, 125]⟩, .int .i64 0, .int .i64 0, .string ⟨#[]⟩] 79)) (.slice (some ⟨w.heap.size, 0, none⟩) 5 5) netK) := Lib.hid (kys_lit (l := netK) (heap_alloc_new w _) rfl)
  go_enter Tryz.func75, Tryz.ntmps75
  go_wp2_with fail
  go_ret
  exact ⟨⟨_, rfl, HK.out⟩, Hb.out⟩
set_option maxRecDepth 100000 in
theorem store_any (w : World) : Calls Tryz.prog 76 #[] w fun e w' => (∃ p, e = .returned (.slice p 4 4) ∧ Kys w' (.slice p 4 4) storeK) ∧ Below w.heap.size w w' := by
  have Hb : Hid (Below w.heap.size w (w.alloc (.cells #[.string ⟨#[115, 116, 111, 114, 101, 46, 98, 108, 111, 99, 107, 115]⟩, .int .i64 2, .string ⟨#[54, 52]⟩, .int .i64 8, .int .i64 4096, .string ⟨#[98]⟩, .string ⟨#[115, 116, 111, 114, 101, 46, 99, 97, 99, 104, 101]⟩, .int .i64 3, .string ⟨#[52, 109]⟩, .int .i64 0, .int .i64 1073741824, .string ⟨#[99]⟩, .string ⟨#[115, 116, 111, 114, 101, 46, 100, 105, 114]⟩, .int .i64 5, .string ⟨#[47, 118, 97, 114, 47, 116, 105, 110, 100, 101, 114]⟩, .int .i64 0, .int .i64 0, .string ⟨#[100]⟩, .string ⟨#[115, 116, 111, 114, 101, 46, 112, 97, 103, 101]⟩, .int .i64 3, .string ⟨#[52, 107]⟩, .int .i64 512, .int .i64 65536, .string ⟨#[]⟩] 79))) := Lib.hid ((Below.refl _ _).alloc (Nat.le_refl _) _)
  have HK : Hid (Kys (w.alloc (.cells #[.string ⟨#[115, 116, 111, 114, 101, 46, 98, 108, 111, 99, 107, 115]⟩, .int .i64 2, .string ⟨#[54, 52]⟩, .int .i64 8, .int .i64 4096, .string ⟨#[98]⟩, .string ⟨#[115, 116, 111, 114, 101, 46, 99, 97, 99, 104, 101]⟩, .int .i64 3, .string ⟨#[52, 109]⟩, .int .i64 0, .int .i64 1073741824, .string ⟨#[99]⟩, .string ⟨#[115, 116, 111, 114, 101, 46, 100, 105, 114]⟩, .int .i64 5, .string ⟨#[47, 118, 97, 114, 47, 116, 105, 110, 100, 101, 114]⟩, .int .i64 0, .int .i64 0, .string ⟨#[100]⟩, .string ⟨#[115, 116, 111, 114, 101, 46, 112, 97, 103, 101]⟩, .int .i64 3, .string ⟨#[52, 107]⟩, .int .i64 512, .int .i64 65536, .string ⟨#[]⟩] 79)) (.slice (some ⟨w.heap.size, 0, none⟩) 4 4) storeK) := Lib.hid (kys_lit (l := storeK) (heap_alloc_new w _) rfl)
  go_enter Tryz.func76, Tryz.ntmps76
  go_wp2_with fail
  go_ret
  exact ⟨⟨_, rfl, HK.out⟩, Hb.out⟩
set_option maxRecDepth 100000 in
theorem boot_any (w : World) : Calls Tryz.prog 77 #[] w fun e w' => (∃ p, e = .returned (.slice p 4 4) ∧ Kys w' (.slice p 4 4) bootK) ∧ Below w.heap.size w w' := by
  have Hb : Hid (Below w.heap.size w (w.alloc (.cells #[.string ⟨#[98, 111, 111, 116, 46, 100, 114, 121]⟩, .int .i64 1, .string ⟨#[102, 97, 108, 115, 101]⟩, .int .i64 0, .int .i64 0, .string ⟨#[110]⟩, .string ⟨#[98, 111, 111, 116, 46, 108, 105, 109, 105, 116]⟩, .int .i64 2, .string ⟨#[48]⟩, .int .i64 0, .int .i64 1024, .string ⟨#[]⟩, .string ⟨#[98, 111, 111, 116, 46, 115, 101, 114, 118, 105, 99, 101, 115]⟩, .int .i64 6, .string ⟨#[108, 111, 103, 44, 110, 101, 116]⟩, .int .i64 0, .int .i64 16, .string ⟨#[115]⟩, .string ⟨#[98, 111, 111, 116, 46, 119, 111, 114, 107, 101, 114, 115]⟩, .int .i64 2, .string ⟨#[48]⟩, .int .i64 0, .int .i64 64, .string ⟨#[119]⟩] 79))) := Lib.hid ((Below.refl _ _).alloc (Nat.le_refl _) _)
  have HK : Hid (Kys (w.alloc (.cells #[.string ⟨#[98, 111, 111, 116, 46, 100, 114, 121]⟩, .int .i64 1, .string ⟨#[102, 97, 108, 115, 101]⟩, .int .i64 0, .int .i64 0, .string ⟨#[110]⟩, .string ⟨#[98, 111, 111, 116, 46, 108, 105, 109, 105, 116]⟩, .int .i64 2, .string ⟨#[48]⟩, .int .i64 0, .int .i64 1024, .string ⟨#[]⟩, .string ⟨#[98, 111, 111, 116, 46, 115, 101, 114, 118, 105, 99, 101, 115]⟩, .int .i64 6, .string ⟨#[108, 111, 103, 44, 110, 101, 116]⟩, .int .i64 0, .int .i64 16, .string ⟨#[115]⟩, .string ⟨#[98, 111, 111, 116, 46, 119, 111, 114, 107, 101, 114, 115]⟩, .int .i64 2, .string ⟨#[48]⟩, .int .i64 0, .int .i64 64, .string ⟨#[119]⟩] 79)) (.slice (some ⟨w.heap.size, 0, none⟩) 4 4) bootK) := Lib.hid (kys_lit (l := bootK) (heap_alloc_new w _) rfl)
  go_enter Tryz.func77, Tryz.ntmps77
  go_wp2_with fail
  go_ret
  exact ⟨⟨_, rfl, HK.out⟩, Hb.out⟩
/-- A row of lists. -/
def Rows4 (w : World) (g : Nat) (ls : List (List Ky)) : Prop := ∃ cs, w.heap[g]? = some (.cells cs 32 (0, 0)) ∧ ∀ (i : Nat) (l : List Ky), ls[i]? = some l → ∃ v, cs[i]? = some v ∧ Kys w v l
theorem Rows4.later {w w' : World} {g : Nat} {ls : List (List Ky)} (h : Rows4 w g ls) (hb : Below w.heap.size w w') : Rows4 w' g ls := by
  obtain ⟨cs, h1, h2⟩ := h
  refine ⟨cs, (hb.block g (lt_of_block h1)).trans h1, fun i l hl => ?_⟩
  obtain ⟨v, hv, hk⟩ := h2 i l hl
  exact ⟨v, hv, hk.later hb⟩
/-- A set may read what lies below it. -/
theorem add_step (S : List Ky) (l : List Ky) (j : Nat) (x : Ky) (h : l[j]? = some x) : addAll S (l.take (j + 1)) = addK (addAll S (l.take j)) x := by
  have e : l.take (j + 1) = l.take j ++ [x] := by
    have hlt : j < l.length := (List.getElem?_eq_some_iff.1 h).1
    rw [List.take_succ_eq_append_getElem hlt]
    rw [List.getElem?_eq_getElem hlt] at h
    rw [Option.some.inj h]
  rw [e, addAll_append]
  rfl
end Go.Proofs.YtbelnaiekbfoiaaGreatDoor.ky
/- Package key: a set of several lists, the standard set. Conditions: the listed variables hold what the program's text lays. -/
namespace Go.Proofs.YtbelnaiekbfoiaaGreatDoor.ky
open Go.ChangeShapes Go.WideShapes Go.ChangeAt Go.RowKit gl va ls

theorem addAll_take (S : List Ky) (lss : List (List Ky)) (i : Nat) (l : List Ky) (h : lss[i]? = some l) : addAll S (lss.take (i + 1)).flatten = addAll (addAll S (lss.take i).flatten) l := by
  have hlt : i < lss.length := (List.getElem?_eq_some_iff.1 h).1
  rw [List.take_succ_eq_append_getElem hlt]
  rw [List.getElem?_eq_getElem hlt] at h
  rw [Option.some.inj h, List.flatten_append, addAll_append]
  simp
set_option maxHeartbeats 4000000 in
set_option maxRecDepth 100000 in
theorem together_any (g n : Nat) (lss : List (List Ky)) (hn : lss.length = n) (hn4 : n ≤ 100) (hlens : ∀ l ∈ lss, l.length ≤ 4294967295) (hok : ∀ l ∈ lss, ∀ x ∈ l, KyOk x) (w : World) (hR : Rows4 w g lss) (hV : Vlo w) :
    Calls Tryz.prog 73 #[.slice (some ⟨g, 0, none⟩) n n] w fun e w' => (∃ b, e = .returned (.pointer (some ⟨b, 0, none⟩)) ∧ SetK w.heap.size w' b (addAll [] lss.flatten)) ∧ Below w.heap.size w w' := by
  have HV := Lib.hid hV
  have HR := Lib.hid hR
  have HNw := Lib.hid (New_any w)
  have hgw : g < w.heap.size := by obtain ⟨_, h1, _⟩ := hR; exact lt_of_block h1
  clear hV hR
  go_enter Tryz.func73, Tryz.ntmps73
  go_wp2_with fail
  refine HNw.out.mono ?_
  rintro e w1 ⟨rfl, hS1, hb1⟩
  have HS1 := Lib.hid hS1
  have Hb1 := Lib.hid hb1
  clear hS1 hb1 HNw
  obtain ⟨b, hb⟩ : ∃ b, b = w.heap.size := ⟨_, rfl⟩
  rw [← hb] at HS1
  rw [← hb]
  have hbw : w.heap.size ≤ b := by omega
  have Hbe := Lib.hid hb
  clear hb
  go_wp2_with fail
  go_loopw [11] (fun i wr => ∃ j : Nat, j ≤ n ∧ i = .int .i64 j ∧ Hid (SetK b wr b (addAll [] (lss.take j).flatten)) ∧ Hid (Below w.heap.size w wr)) (fun i _ => n - (intOf i).toNat)
  case atStart => exact ⟨0, by omega, rfl, HS1, Hb1⟩
  case round =>
    clear HS1 Hb1
    obtain ⟨wo, rfl⟩ : ∃ wo, wo = wr := ⟨_, rfl⟩
    obtain ⟨j, hj, rfl, HS, Hb⟩ := hrel
    by_cases hlt : j < n
    · obtain ⟨l, hl⟩ : ∃ l, lss[j]? = some l := ⟨_, List.getElem?_eq_getElem (by omega)⟩
      have hlm := List.mem_of_getElem? hl
      obtain ⟨cs, hcs, hrow⟩ := HR.out
      obtain ⟨v, hv, hkv⟩ := hrow j l hl
      obtain ⟨p, c, rfl⟩ := hkv.form
      have c0 : wo.cell? ⟨g, j, none⟩ = some (.slice p l.length c) := by rw [cell_in ((Hb.out.block g (lt_of_block hcs)).trans hcs)]; exact hv
      have hgo : g < wo.heap.size := by have := Hb.out.size; omega
      have HKl := Lib.hid hkv
      have HPl := Lib.hid hkv.ptr.2.2
      have hll := hlens l hlm
      have Hokl := Lib.hid (hok l hlm)
      have Hat := Lib.hid (addAll_take [] lss j l hl)
      obtain ⟨S, hS⟩ : ∃ S, addAll [] (lss.take j).flatten = S := ⟨_, rfl⟩
      rw [hS] at HS Hat
      have hwo : w.heap.size ≤ wo.heap.size := Hb.out.size
      clear hl hlm hcs hrow hv hkv hS
      go_wp2_with fail
      go_loopw [17] (fun i wq => ∃ k : Nat, k ≤ l.length ∧ i = .int .i64 k ∧ Hid (SetK b wq b (addAll S (l.take k))) ∧ Hid (Below w.heap.size w wq)) (fun i _ => l.length - (intOf i).toNat)
      case atStart => exact ⟨0, by omega, rfl, HS, Hb⟩
      case round =>
        obtain ⟨wq, rfl⟩ : ∃ wq, wq = wr := ⟨_, rfl⟩
        obtain ⟨k, hk, rfl, HSq, Hbq⟩ := hrel
        by_cases hlt2 : k < l.length
        · obtain ⟨x, hx⟩ : ∃ x, l[k]? = some x := ⟨_, List.getElem?_eq_getElem hlt2⟩
          obtain ⟨bp, op, rfl, hbp⟩ := HPl.out (by omega)
          obtain ⟨k0, k1, k2, k3, k4, k5⟩ := ky_cells (HKl.out.later Hbq.out) hx
          have hbq : bp < wq.heap.size := by have := Hbq.out.size; omega
          have hki : (k : Int) < (l.length : Int) := by omega
          have hk50 : (0 : Int) ≤ (k : Int) := by omega
          have hbqs : b < wq.heap.size := HSq.out.lt
          have Hst := Lib.hid (add_step S l k x hx)
          have HAdd : Hid (∀ W, Below wq.heap.size wq W → Calls Tryz.prog 38 #[.pointer (some ⟨b, 0, none⟩), .agg #[.string (B x.name), .int .i64 x.kind, .string (B x.dflt), .int .i64 x.least, .int .i64 x.most, .string (B x.letter)]] W fun e w' => (∃ er, e = .returned (.int .i64 er)) ∧ SetK b w' b (addAll S (l.take (k + 1))) ∧ Below w.heap.size w w') := Lib.hid fun W hW => by
            have hbW := then_bel Hbq.out hW
            refine (Add_any b b (addAll S (l.take k)) x W (HSq.out.later hW) (Hokl.out x (List.mem_of_getElem? hx)) (by have := hW.size; omega) (HV.out.below hbW (Nat.le_refl _))).mono fun e w' h => ?_
            obtain ⟨h1, h2, h3⟩ := h
            refine ⟨⟨_, h1⟩, by rw [Hst.out]; exact h2, hbW.trans ?_⟩
            rw [← Hbe.out]
            exact h3
          clear hx
          generalize B x.name = nm at *
          generalize B x.dflt = df at *
          generalize B x.letter = lt at *
          generalize x.kind = kk at *
          generalize x.least = le at *
          generalize x.most = mo at *
          go_wp2_with fail
          refine (HAdd.out _ (by repeat (first | exact Below.refl _ _ | refine Below.setCell ?_ (by simp only; omega) _ | refine Below.alloc ?_ (by simp) _))).mono ?_
          rintro e w9 ⟨⟨er, rfl⟩, hs9, hb9⟩
          have Hs9 := Lib.hid hs9
          have Hb9 := Lib.hid hb9
          clear hs9 hb9
          go_wp2_with fail
          go_roundw
          case rel => exact ⟨k + 1, by omega, by go_num, Hs9, Hb9⟩
          case measure => simp [intOf]; omega
        · obtain rfl : k = l.length := by omega
          have HSn : Hid (SetK b wq b (addAll [] (lss.take (j + 1)).flatten)) := Lib.hid (by
            rw [Hat.out]
            have h := HSq.out
            rwa [List.take_of_length_le (Nat.le_refl _)] at h)
          have hd1 : decide ((l.length : Int) < (l.length : Int)) = false := by simp
          go_wp2_with fail
          go_roundw
          case rel => exact ⟨j + 1, by omega, by go_num, HSn, Hbq⟩
          case measure => simp [intOf]; omega
    · obtain rfl : j = n := by omega
      have hd1 : decide ((j : Int) < (j : Int)) = false := by simp
      go_wp2_with fail
      go_ret
      refine ⟨⟨b, rfl, ?_⟩, Hb.out⟩
      have h := HS.out
      rw [List.take_of_length_le (by omega)] at h
      rw [← Hbe.out]
      exact h
theorem four {w : World} {g : Nat} {p0 p1 p2 p3 : Option Addr} (h : w.heap[g]? = some (.cells #[.slice p0 3 3, .slice p1 5 5, .slice p2 4 4, .slice p3 4 4] 32 (0, 0))) (h0 : Kys w (.slice p0 3 3) logK) (h1 : Kys w (.slice p1 5 5) netK) (h2 : Kys w (.slice p2 4 4) storeK) (h3 : Kys w (.slice p3 4 4) bootK) : Rows4 w g [logK, netK, storeK, bootK] := by
  refine ⟨_, h, fun i l hl => ?_⟩
  match i, hl with
  | 0, hl => cases hl; exact ⟨_, rfl, h0⟩
  | 1, hl => cases hl; exact ⟨_, rfl, h1⟩
  | 2, hl => cases hl; exact ⟨_, rfl, h2⟩
  | 3, hl => cases hl; exact ⟨_, rfl, h3⟩
set_option maxHeartbeats 1000000 in
set_option maxRecDepth 100000 in
/-- The standard set, at any time. -/
theorem Standard_any (w : World) (hV : Vlo w) :
    Calls Tryz.prog 29 #[] w fun e w' => (∃ b, e = .returned (.pointer (some ⟨b, 0, none⟩)) ∧ SetK w.heap.size w' b stdK) ∧ Below w.heap.size w w' := by
  have HV := Lib.hid hV
  clear hV
  go_enter Tryz.func29, Tryz.ntmps29
  go_wp2_with fail
  refine (log_any w).mono ?_
  rintro e w1 ⟨⟨p1, rfl, h1⟩, hb1⟩
  have H1 := Lib.hid h1
  have Hb1 := Lib.hid hb1
  clear h1 hb1
  go_wp2_with fail
  refine (net_any w1).mono ?_
  rintro e w2 ⟨⟨p2, rfl, h2⟩, hb2⟩
  have H12 := Lib.hid (H1.out.later hb2)
  have H2 := Lib.hid h2
  have Hb2 := Lib.hid (then_bel Hb1.out hb2)
  clear h2 hb2
  go_wp2_with fail
  refine (store_any w2).mono ?_
  rintro e w3 ⟨⟨p3, rfl, h3⟩, hb3⟩
  have H13 := Lib.hid (H12.out.later hb3)
  have H23 := Lib.hid (H2.out.later hb3)
  have H3 := Lib.hid h3
  have Hb3 := Lib.hid (then_bel Hb2.out hb3)
  clear h3 hb3
  go_wp2_with fail
  refine (boot_any w3).mono ?_
  rintro e w4 ⟨⟨p4, rfl, h4⟩, hb4⟩
  have H14 := Lib.hid (H13.out.later hb4)
  have H24 := Lib.hid (H23.out.later hb4)
  have H34 := Lib.hid (H3.out.later hb4)
  have H4 := Lib.hid h4
  have Hb4 := Lib.hid (then_bel Hb3.out hb4)
  clear h4 hb4
  obtain ⟨w5, hw5⟩ : ∃ w5, w5 = w4.alloc (.cells #[.slice p1 3 3, .slice p2 5 5, .slice p3 4 4, .slice p4 4 4] 32) := ⟨_, rfl⟩
  have hb45 : Below w4.heap.size w4 w5 := by rw [hw5]; exact (Below.refl _ _).alloc (Nat.le_refl _) _
  have hrow : Rows4 w5 w4.heap.size [logK, netK, storeK, bootK] := four (by rw [hw5]; exact heap_alloc_new w4 _) (H14.out.later hb45) (H24.out.later hb45) (H34.out.later hb45) (H4.out.later hb45)
  have Hb5 := Lib.hid (then_bel Hb4.out hb45)
  have HT := Lib.hid (together_any w4.heap.size 4 [logK, netK, storeK, bootK] rfl (by decide) (by decide) (fun l hl x hx => std_ok x (by
    simp only [List.mem_cons, List.not_mem_nil, or_false] at hl
    unfold stdK
    rcases hl with rfl | rfl | rfl | rfl <;> simp [hx])) w5 hrow (HV.out.below Hb5.out (Nat.le_refl _)))
  have Hw5 := Lib.hid hw5
  clear hb45 hrow hw5
  go_wp2_with fail
  rw [← Hw5.out]
  refine HT.out.mono ?_
  rintro e w6 ⟨⟨b, rfl, hs⟩, hb6⟩
  have Hs := Lib.hid hs
  have Hb6 := Lib.hid (then_bel Hb5.out hb6)
  have Hz := Lib.hid Hb5.out.size
  clear hs hb6
  go_wp2_with fail
  go_ret
  refine ⟨⟨b, rfl, ?_⟩, Hb6.out⟩
  have h := Hs.out
  rw [show [logK, netK, storeK, bootK].flatten = logK ++ (netK ++ (storeK ++ bootK)) by simp, std_all] at h
  exact ⟨by have := h.lo; have := Hz.out; omega, h.len, h.asc, h.ok, by
    obtain ⟨v, hv, hB⟩ := h.blk
    exact ⟨v, hv, hB.mono Hz.out⟩⟩
end Go.Proofs.YtbelnaiekbfoiaaGreatDoor.ky
/- The document's set of definitions: Find, Letter. Conditions: it lies in memory as its list. -/
namespace Go.Proofs.YtbelnaiekbfoiaaGreatDoor.ky
open Go.ChangeShapes Go.WideShapes Go.ChangeAt Go.RowKit gl va ls

/-- The document's set at block b. -/
def RefK (w : World) (b : Nat) (L : List Ky) : Prop := ∃ p c, w.heap[b]? = some (.cells #[.slice p L.length c] 149 (0, 0)) ∧ Kys w (.slice p L.length c) L
theorem RefK.later {w w' : World} {b : Nat} {L : List Ky} (h : RefK w b L) (hb : Below w.heap.size w w') : RefK w' b L := by
  obtain ⟨p, c, h1, h2⟩ := h
  exact ⟨p, c, (hb.block b (lt_of_block h1)).trans h1, h2.later hb⟩
theorem find_hit {p : Ky → Bool} {L : List Ky} {j : Nat} {x : Ky} (h : (L.take j).find? p = none) (hx : L[j]? = some x) (hp : p x = true) : L.find? p = some x := by
  have hlt := lt_get hx
  rw [List.getElem?_eq_getElem hlt] at hx
  have e : L = L.take j ++ x :: L.drop (j + 1) := by
    rw [← Option.some.inj hx, ← List.drop_eq_getElem_cons hlt, List.take_append_drop]
  rw [e, List.find?_append, h, List.find?_cons, hp]
  rfl
theorem find_next {p : Ky → Bool} {L : List Ky} {j : Nat} {x : Ky} (h : (L.take j).find? p = none) (hx : L[j]? = some x) (hp : p x = false) : (L.take (j + 1)).find? p = none := by
  have hlt := lt_get hx
  rw [List.getElem?_eq_getElem hlt] at hx
  rw [List.take_succ_eq_append_getElem hlt, Option.some.inj hx, List.find?_append, h, List.find?_cons, hp]
  rfl
set_option maxHeartbeats 4000000 in
set_option maxRecDepth 100000 in
theorem refFind_any (b : Nat) (L : List Ky) (t : List UInt8) (w : World) (hR : RefK w b L) (hlen : L.length ≤ 4294967295) :
    Calls Tryz.prog 90 #[.pointer (some ⟨b, 0, none⟩), .string (B t)] w fun e w' => e = .returned (foundV (findK L t)) ∧ Below w.heap.size w w' := by
  obtain ⟨wA, hA⟩ : ∃ wA, wA = w.alloc (.cells #[.string ⟨#[]⟩, .int .i64 0, .string ⟨#[]⟩, .int .i64 0, .int .i64 0, .string ⟨#[]⟩] 79) := ⟨_, rfl⟩
  have kA : wA.heap[w.heap.size]? = some (.cells #[.string ⟨#[]⟩, .int .i64 0, .string ⟨#[]⟩, .int .i64 0, .int .i64 0, .string ⟨#[]⟩] 79 (0, 0)) := by rw [hA]; exact heap_alloc_new w _
  have hbA : Below w.heap.size w wA := by rw [hA]; exact (Below.refl _ _).alloc (Nat.le_refl _) _
  obtain ⟨p, c, hblk, hrw⟩ := hR
  have HP := Lib.hid hrw.ptr.2.2
  have HR := Lib.hid (hrw.later hbA)
  have HbA := Lib.hid hbA
  have HA := Lib.hid hA
  have hblkA := (hbA.block b (lt_of_block hblk)).trans hblk
  have c0 : wA.cell? ⟨b, 0, none⟩ = some (.slice p L.length c) := cell_in hblkA
  have hbw : b < wA.heap.size := lt_of_block hblkA
  have hk1 := kA
  have Hk1 := Lib.hid hk1
  have a0 : wA.cell? ⟨w.heap.size, 0, none⟩ = some (.string ⟨#[]⟩) := cell_in hk1
  have a1 : wA.cell? ⟨w.heap.size, 1, none⟩ = some (.int .i64 0) := cell_in hk1
  have a2 : wA.cell? ⟨w.heap.size, 2, none⟩ = some (.string ⟨#[]⟩) := cell_in hk1
  have a3 : wA.cell? ⟨w.heap.size, 3, none⟩ = some (.int .i64 0) := cell_in hk1
  have a4 : wA.cell? ⟨w.heap.size, 4, none⟩ = some (.int .i64 0) := cell_in hk1
  have a5 : wA.cell? ⟨w.heap.size, 5, none⟩ = some (.string ⟨#[]⟩) := cell_in hk1
  have f0 : wA.frozen? ⟨w.heap.size, 0, none⟩ = false := free_in hk1
  have f1 : wA.frozen? ⟨w.heap.size, 1, none⟩ = false := free_in hk1
  have f2 : wA.frozen? ⟨w.heap.size, 2, none⟩ = false := free_in hk1
  have f3 : wA.frozen? ⟨w.heap.size, 3, none⟩ = false := free_in hk1
  have f4 : wA.frozen? ⟨w.heap.size, 4, none⟩ = false := free_in hk1
  have f5 : wA.frozen? ⟨w.heap.size, 5, none⟩ = false := free_in hk1
  have hgwA : w.heap.size < wA.heap.size := lt_of_block hk1

  clear hbA hA hrw hblk hblkA kA hk1
  have Hb : Hid (∀ x : Ky, x ∈ L → True) := Lib.hid fun _ _ => trivial
  go_enter Tryz.func90, Tryz.ntmps90
  go_wp2_with fail
  go_loopw [6] (fun i wr => ∃ j : Nat, j ≤ L.length ∧ i = .int .i64 j ∧ Hid ((L.take j).find? (fun y => decide (y.name = t)) = none) ∧ wr = wA) (fun i _ => L.length - (intOf i).toNat)
  case atStart => exact ⟨0, by omega, rfl, Lib.hid rfl, HA.out.symm⟩
  case round =>
    obtain ⟨j, hj, rfl, HN, hwr⟩ := hrel
    obtain rfl : wA = wr := hwr.symm
    by_cases hlt : j < L.length
    · obtain ⟨bp, op, rfl, hbp⟩ := HP.out (by omega)
      obtain ⟨x, hx⟩ : ∃ x, L[j]? = some x := ⟨_, List.getElem?_eq_getElem hlt⟩
      obtain ⟨k0, k1, k2, k3, k4, k5⟩ := ky_cells HR.out hx
      have hbr : bp < wA.heap.size := by have := HbA.out.size; omega
      have hki : (j : Int) < (L.length : Int) := by omega
      have hk5 : (0 : Int) ≤ (j : Int) := by omega
      by_cases hq : x.name = t
      · have q1 : ((B x.name).toList == (B t).toList) = true := by rw [str_eq, decide_eq_true hq]
        have Hf : Hid (findK L t = some x) := Lib.hid (find_hit HN.out hx (by rw [decide_eq_true hq]))
        clear hq
        generalize B t = tt at *
        have hk1 := Hk1.out
        clear hx
        have Hk2 := Lib.hid (stored hk1 (.string (B x.name)) (.int .i64 x.kind) (.string (B x.dflt)) (.int .i64 x.least) (.int .i64 x.most) (.string (B x.letter)))
        have HV : Hid (foundV (some x) = .tuple #[.agg #[.string (B x.name), .int .i64 x.kind, .string (B x.dflt), .int .i64 x.least, .int .i64 x.most, .string (B x.letter)], .bool true]) := Lib.hid rfl
        clear hk1
        generalize B x.name = nm at *
        generalize B x.dflt = df at *
        generalize B x.letter = lt at *
        generalize x.kind = kk at *
        generalize x.least = le at *
        generalize x.most = mo at *
        go_wp2_with fail
        refine bodyPost_ret (results_cell_row2 rfl _ _ (w.heap.size) 79 _ _ _ rfl Hk2.out Tryz.underlying79 rfl (by kernel_rfl)) rfl ?_
        refine ⟨?_, stored_bel HbA.out (by omega) _ _ _ _ _ _⟩
        rw [Hf.out, HV.out]
        rfl
      · have q1 : ((B x.name).toList == (B t).toList) = false := by rw [str_eq, decide_eq_false hq]
        have HN2 := Lib.hid (find_next HN.out hx (by rw [decide_eq_false hq]))
        clear hq hx
        generalize B t = tt at *
        generalize B x.name = nm at *
        generalize B x.dflt = df at *
        generalize B x.letter = lt at *
        generalize x.kind = kk at *
        generalize x.least = le at *
        generalize x.most = mo at *
        go_wp2_with fail
        go_roundw
        case rel => exact ⟨j + 1, by omega, by go_num, HN2, trivial⟩
        case measure => simp [intOf]; omega
    · obtain rfl : j = L.length := by omega
      have Hf : Hid (findK L t = none) := Lib.hid (by
        have h := HN.out
        rw [List.take_of_length_le (Nat.le_refl _)] at h
        exact h)
      have hd1 : decide ((L.length : Int) < (L.length : Int)) = false := by simp
      have hk1 := Hk1.out
      have Hk2 := Lib.hid (stored hk1 (.string ⟨#[]⟩) (.int .i64 0) (.string ⟨#[]⟩) (.int .i64 0) (.int .i64 0) (.string ⟨#[]⟩))
      clear hk1
      go_wp2_with fail
      refine bodyPost_ret (results_cell_row2 rfl _ _ (w.heap.size) 79 _ _ _ rfl Hk2.out Tryz.underlying79 rfl (by kernel_rfl)) rfl ?_
      refine ⟨?_, stored_bel HbA.out (by omega) _ _ _ _ _ _⟩
      rw [Hf.out]
      rfl
set_option maxHeartbeats 4000000 in
set_option maxRecDepth 100000 in
theorem refLetter1_any (b : Nat) (L : List Ky) (t : List UInt8) (w : World) (hR : RefK w b L) (hlen : L.length ≤ 4294967295) (ht : t ≠ []) :
    Calls Tryz.prog 91 #[.pointer (some ⟨b, 0, none⟩), .string (B t)] w fun e w' => e = .returned (foundV (lettK L t)) ∧ Below w.heap.size w w' := by
  obtain ⟨wA, hA⟩ : ∃ wA, wA = w.alloc (.cells #[.string ⟨#[]⟩, .int .i64 0, .string ⟨#[]⟩, .int .i64 0, .int .i64 0, .string ⟨#[]⟩] 79) := ⟨_, rfl⟩
  have kA : wA.heap[w.heap.size]? = some (.cells #[.string ⟨#[]⟩, .int .i64 0, .string ⟨#[]⟩, .int .i64 0, .int .i64 0, .string ⟨#[]⟩] 79 (0, 0)) := by rw [hA]; exact heap_alloc_new w _
  have hbA : Below w.heap.size w wA := by rw [hA]; exact (Below.refl _ _).alloc (Nat.le_refl _) _
  obtain ⟨p, c, hblk, hrw⟩ := hR
  have HP := Lib.hid hrw.ptr.2.2
  have HR := Lib.hid (hrw.later hbA)
  have HbA := Lib.hid hbA
  have HA := Lib.hid hA
  have hblkA := (hbA.block b (lt_of_block hblk)).trans hblk
  have c0 : wA.cell? ⟨b, 0, none⟩ = some (.slice p L.length c) := cell_in hblkA
  have hbw : b < wA.heap.size := lt_of_block hblkA
  have hk1 := kA
  have Hk1 := Lib.hid hk1
  have a0 : wA.cell? ⟨w.heap.size, 0, none⟩ = some (.string ⟨#[]⟩) := cell_in hk1
  have a1 : wA.cell? ⟨w.heap.size, 1, none⟩ = some (.int .i64 0) := cell_in hk1
  have a2 : wA.cell? ⟨w.heap.size, 2, none⟩ = some (.string ⟨#[]⟩) := cell_in hk1
  have a3 : wA.cell? ⟨w.heap.size, 3, none⟩ = some (.int .i64 0) := cell_in hk1
  have a4 : wA.cell? ⟨w.heap.size, 4, none⟩ = some (.int .i64 0) := cell_in hk1
  have a5 : wA.cell? ⟨w.heap.size, 5, none⟩ = some (.string ⟨#[]⟩) := cell_in hk1
  have f0 : wA.frozen? ⟨w.heap.size, 0, none⟩ = false := free_in hk1
  have f1 : wA.frozen? ⟨w.heap.size, 1, none⟩ = false := free_in hk1
  have f2 : wA.frozen? ⟨w.heap.size, 2, none⟩ = false := free_in hk1
  have f3 : wA.frozen? ⟨w.heap.size, 3, none⟩ = false := free_in hk1
  have f4 : wA.frozen? ⟨w.heap.size, 4, none⟩ = false := free_in hk1
  have f5 : wA.frozen? ⟨w.heap.size, 5, none⟩ = false := free_in hk1
  have hgwA : w.heap.size < wA.heap.size := lt_of_block hk1
  have e2 : ((B t).toList == (⟨#[]⟩ : ByteArray).toList) = false := by rw [show (⟨#[]⟩ : ByteArray) = B [] from rfl, str_eq, decide_eq_false ht]
  have e3 : ((B t).toList != (⟨#[]⟩ : ByteArray).toList) = true := by rw [bne, e2]; rfl
  have e4 : (B t).toList.isEmpty = false := by rw [ByteArray.toList_eq]; cases t <;> simp_all
  clear hbA hA hrw hblk hblkA kA hk1
  have Hb : Hid (∀ x : Ky, x ∈ L → True) := Lib.hid fun _ _ => trivial
  go_enter Tryz.func91, Tryz.ntmps91
  go_wp2_with fail
  go_loopw [6] (fun i wr => ∃ j : Nat, j ≤ L.length ∧ i = .int .i64 j ∧ Hid ((L.take j).find? (fun y => decide (y.letter = t)) = none) ∧ wr = wA) (fun i _ => L.length - (intOf i).toNat)
  case atStart => exact ⟨0, by omega, rfl, Lib.hid rfl, HA.out.symm⟩
  case round =>
    obtain ⟨j, hj, rfl, HN, hwr⟩ := hrel
    obtain rfl : wA = wr := hwr.symm
    by_cases hlt : j < L.length
    · obtain ⟨bp, op, rfl, hbp⟩ := HP.out (by omega)
      obtain ⟨x, hx⟩ : ∃ x, L[j]? = some x := ⟨_, List.getElem?_eq_getElem hlt⟩
      obtain ⟨k0, k1, k2, k3, k4, k5⟩ := ky_cells HR.out hx
      have hbr : bp < wA.heap.size := by have := HbA.out.size; omega
      have hki : (j : Int) < (L.length : Int) := by omega
      have hk5 : (0 : Int) ≤ (j : Int) := by omega
      by_cases hq : x.letter = t
      · have q1 : ((B x.letter).toList == (B t).toList) = true := by rw [str_eq, decide_eq_true hq]
        have Hf : Hid (lettK L t = some x) := Lib.hid (by unfold lettK; rw [if_neg ht]; exact find_hit HN.out hx (by rw [decide_eq_true hq]))
        clear hq
        generalize B t = tt at *
        have hk1 := Hk1.out
        clear hx
        have Hk2 := Lib.hid (stored hk1 (.string (B x.name)) (.int .i64 x.kind) (.string (B x.dflt)) (.int .i64 x.least) (.int .i64 x.most) (.string (B x.letter)))
        have HV : Hid (foundV (some x) = .tuple #[.agg #[.string (B x.name), .int .i64 x.kind, .string (B x.dflt), .int .i64 x.least, .int .i64 x.most, .string (B x.letter)], .bool true]) := Lib.hid rfl
        clear hk1
        generalize B x.name = nm at *
        generalize B x.dflt = df at *
        generalize B x.letter = lt at *
        generalize x.kind = kk at *
        generalize x.least = le at *
        generalize x.most = mo at *
        go_wp2_with fail
        refine bodyPost_ret (results_cell_row2 rfl _ _ (w.heap.size) 79 _ _ _ rfl Hk2.out Tryz.underlying79 rfl (by kernel_rfl)) rfl ?_
        refine ⟨?_, stored_bel HbA.out (by omega) _ _ _ _ _ _⟩
        rw [Hf.out, HV.out]
        rfl
      · have q1 : ((B x.letter).toList == (B t).toList) = false := by rw [str_eq, decide_eq_false hq]
        have HN2 := Lib.hid (find_next HN.out hx (by rw [decide_eq_false hq]))
        clear hq hx
        generalize B t = tt at *
        generalize B x.name = nm at *
        generalize B x.dflt = df at *
        generalize B x.letter = lt at *
        generalize x.kind = kk at *
        generalize x.least = le at *
        generalize x.most = mo at *
        go_wp2_with fail
        go_roundw
        case rel => exact ⟨j + 1, by omega, by go_num, HN2, trivial⟩
        case measure => simp [intOf]; omega
    · obtain rfl : j = L.length := by omega
      have Hf : Hid (lettK L t = none) := Lib.hid (by
        have h := HN.out
        rw [List.take_of_length_le (Nat.le_refl _)] at h
        unfold lettK; rw [if_neg ht]; exact h)
      have hd1 : decide ((L.length : Int) < (L.length : Int)) = false := by simp
      have hk1 := Hk1.out
      have Hk2 := Lib.hid (stored hk1 (.string ⟨#[]⟩) (.int .i64 0) (.string ⟨#[]⟩) (.int .i64 0) (.int .i64 0) (.string ⟨#[]⟩))
      clear hk1
      go_wp2_with fail
      refine bodyPost_ret (results_cell_row2 rfl _ _ (w.heap.size) 79 _ _ _ rfl Hk2.out Tryz.underlying79 rfl (by kernel_rfl)) rfl ?_
      refine ⟨?_, stored_bel HbA.out (by omega) _ _ _ _ _ _⟩
      rw [Hf.out]
      rfl
end Go.Proofs.YtbelnaiekbfoiaaGreatDoor.ky
/- Definitions held against each other; the document's All, Standard. Conditions: lists in memory; the document's list ascends. -/
namespace Go.Proofs.YtbelnaiekbfoiaaGreatDoor.ky
open Go.ChangeShapes Go.WideShapes Go.ChangeAt Go.RowKit gl va ls

theorem kyFields : (Tryz.prog.fieldsOf 79).toList.map (fun f => (decide (f.name ≠ "_"), f.type, f.offset)) = [(true, 9, 0), (true, 3, 1), (true, 9, 2), (true, 3, 3), (true, 3, 4), (true, 9, 5)] := by kernel_rfl
theorem six_fields {l : List Field} {t0 t1 t2 t3 t4 t5 : TypeId} (h : l.map (fun f => (decide (f.name ≠ "_"), f.type, f.offset)) = [(true, t0, 0), (true, t1, 1), (true, t2, 2), (true, t3, 3), (true, t4, 4), (true, t5, 5)]) :
    ∃ f0 f1 f2 f3 f4 f5 : Field, l = [f0, f1, f2, f3, f4, f5] ∧ (f0.name ≠ "_" ∧ f0.type = t0 ∧ f0.offset = 0) ∧ (f1.name ≠ "_" ∧ f1.type = t1 ∧ f1.offset = 1) ∧ (f2.name ≠ "_" ∧ f2.type = t2 ∧ f2.offset = 2) ∧ (f3.name ≠ "_" ∧ f3.type = t3 ∧ f3.offset = 3) ∧ (f4.name ≠ "_" ∧ f4.type = t4 ∧ f4.offset = 4) ∧ (f5.name ≠ "_" ∧ f5.type = t5 ∧ f5.offset = 5) := by
  obtain ⟨f0, r0, rfl, h0, h⟩ := List.map_eq_cons_iff.1 h
  obtain ⟨f1, r1, rfl, h1, h⟩ := List.map_eq_cons_iff.1 h
  obtain ⟨f2, r2, rfl, h2, h⟩ := List.map_eq_cons_iff.1 h
  obtain ⟨f3, r3, rfl, h3, h⟩ := List.map_eq_cons_iff.1 h
  obtain ⟨f4, r4, rfl, h4, h⟩ := List.map_eq_cons_iff.1 h
  obtain ⟨f5, r5, rfl, h5, h⟩ := List.map_eq_cons_iff.1 h
  obtain rfl := List.map_eq_nil_iff.1 h
  simp only [Prod.mk.injEq, decide_eq_true_eq] at h0 h1 h2 h3 h4 h5
  exact ⟨f0, f1, f2, f3, f4, f5, rfl, h0, h1, h2, h3, h4, h5⟩
set_option maxRecDepth 100000 in
theorem neq_ky_same (a b c : ByteArray) (k lo hi : Int) (w : World) :
    (binOp .neq 79 (.agg #[.string a, .int .i64 k, .string b, .int .i64 lo, .int .i64 hi, .string c]) (.agg #[.string a, .int .i64 k, .string b, .int .i64 lo, .int .i64 hi, .string c])).run Tryz.prog w = .ok (.bool false) w := by
  have hs : Tryz.prog.underlying 9 = some .string := Tryz.underlying9
  have hi : Tryz.prog.underlying 3 = some (.int .i64) := Tryz.underlying3
  have hc : Tryz.prog.cellsOf 9 = 1 := by kernel_rfl
  have hci : Tryz.prog.cellsOf 3 = 1 := by kernel_rfl
  obtain ⟨f0, f1, f2, f3, f4, f5, hf, ⟨n0, t0, o0⟩, ⟨n1, t1, o1⟩, ⟨n2, t2, o2⟩, ⟨n3, t3, o3⟩, ⟨n4, t4, o4⟩, ⟨n5, t5, o5⟩⟩ := six_fields kyFields
  rw [run_neq_struct, run_equalIn_struct w 9999 79 _ _ Tryz.underlying79 (by kernel_rfl), hf]
  simp only [Op.eqFields, n0, n1, n2, n3, n4, n5, t0, t1, t2, t3, t4, t5, o0, o1, o2, o3, o4, o5, ne_eq, not_false_eq_true, if_true]
  simp [go_sem, part, hs, hi]
theorem src_of {w : World} {p : Option Addr} {m c : Nat} {l : List Ky} (h : Kys w (.slice p m c) l) : SrcV w (.slice p m c) m (rw.flat kyC l) := by
  obtain ⟨hlen, hmc, hptr⟩ := h.ptr
  rcases Nat.eq_zero_or_pos m with h0 | h0
  · subst h0
    obtain rfl := List.eq_nil_of_length_eq_zero hlen
    exact .inl ⟨rfl, rfl, _, _, rfl⟩
  · obtain ⟨b, o, rfl, hb⟩ := hptr h0
    refine .inr ⟨h0, _, _, rfl, fun j u hj => ?_⟩
    have hjl := lt_get hj
    rw [rw.flat_len kyC_len] at hjl
    obtain ⟨x, hx⟩ : ∃ x, l[j / 6]? = some x := ⟨_, List.getElem?_eq_getElem (by omega)⟩
    obtain ⟨v, hv⟩ : ∃ v, (kyC x)[j % 6]? = some v := ⟨_, List.getElem?_eq_getElem (show j % 6 < 6 by omega)⟩
    have h1 := rw.flat_at kyC_len l (j / 6) x (j % 6) v hx hv
    rw [show j / 6 * 6 + j % 6 = j by omega, hj] at h1
    obtain rfl := Option.some.inj h1
    have := h.cell hx hv
    rw [show j / 6 * 6 + j % 6 = j by omega] at this
    rw [addN]
    exact this
set_option maxHeartbeats 4000000 in
set_option maxRecDepth 100000 in
/-- The document's All, of a list that ascends. -/
theorem refAll_any (b : Nat) (L : List Ky) (w : World) (hR : RefK w b L) (hlen : L.length ≤ 100000) (hl0 : 1 ≤ L.length) (ha : AscK L) :
    Calls Tryz.prog 92 #[.pointer (some ⟨b, 0, none⟩)] w fun e w' => (∃ p c, e = .returned (.slice p L.length c) ∧ Kys w' (.slice p L.length c) L) ∧ Below w.heap.size w w' := by
  obtain ⟨i0, si, sz0, sz1, sz2⟩ := info_parts infoK
  obtain ⟨p, c, hblk, hrw⟩ := hR
  have c0 : w.cell? ⟨b, 0, none⟩ = some (.slice p L.length c) := cell_in hblk
  have hbw : b < w.heap.size := lt_of_block hblk
  have Hsrc := Lib.hid (src_of hrw)
  have H1 := Lib.hid (rw.flat_one kyC_one L)
  have HA := Lib.hid ha
  have Hfl := Lib.hid (rw.flat_len kyC_len L)
  clear hblk hrw ha
  go_enter Tryz.func92, Tryz.ntmps92
  focus
    go_wp2_with (at_builtin; go_must (refine wpList_append_any rfl _ _ 32 rfl 79 i0 _ 6 72 Tryz.underlying32 si sz0 sz1 sz2 rfl (by decide) w.heap.size (.slice none 0 0) 0 [] (by rfl) ⟨rfl, .inl ⟨rfl, rfl⟩⟩ _ L.length _ (by rfl) Hsrc.out Hfl.out H1.out (by omega) (by omega) (Nat.le_refl _) ?_))
  intro p2 cap w2 hown hgrow
  have hK2 : Kys w2 (.slice p2 L.length cap) L := rw.own_rw kyC_len (by decide) hown
  have HK2 := Lib.hid hK2
  have Hb2 : Hid (Below w.heap.size w w2) := Lib.hid ⟨hgrow.os, hgrow.tape, hgrow.output, hgrow.size, fun k hk => hgrow.block k hk (by simp [Value.ownBlock])⟩
  obtain ⟨bp, op, rfl, hbp⟩ := hK2.ptr.2.2 (by omega)
  have hcap := hK2.ptr.2.1
  try rw [Nat.zero_add]
  clear hown hgrow hK2 c0
  obtain ⟨n, hn⟩ : ∃ n, n = L.length := ⟨_, rfl⟩
  have Hn := Lib.hid hn
  rw [← hn] at hlen hl0 HK2 hcap
  rw [← hn]
  clear hn
  go_wp2_with fail
  go_loopw [4] (fun i wr => ∃ j q : Nat, j + 1 ≤ n ∧ i = .int .i64 ((j : Int) + 1) ∧ wr = w2.drewN q) (fun i _ => n - (intOf i).toNat)
  case atStart => exact ⟨0, 0, by omega, rfl, rfl⟩
  case round =>
    obtain ⟨j, q, hj, rfl, hwr⟩ := hrel
    have Hq := Lib.hid hwr
    have hbq : Below w2.heap.size w2 wr := by rw [hwr]; exact ⟨rfl, rfl, rfl, Nat.le_refl _, fun _ _ => rfl⟩
    have Hbq := Lib.hid hbq
    have hbr : bp < wr.heap.size := by have := hbq.size; omega
    clear hwr hbq
    by_cases hlt : j + 1 < n
    · obtain ⟨x, hx⟩ : ∃ x, L[j + 1]? = some x := ⟨_, List.getElem?_eq_getElem (by rw [← Hn.out]; exact hlt)⟩
      obtain ⟨y, hy⟩ : ∃ y, L[j]? = some y := ⟨_, List.getElem?_eq_getElem (by rw [← Hn.out]; omega)⟩
      have d0 := (ky_cells (HK2.out.later Hbq.out) hx).1
      have e0 := (ky_cells (HK2.out.later Hbq.out) hy).1
      have hlo : Op.bytesLess (B x.name).toList (B y.name).toList = false := by
        rw [ByteArray.toList_eq, ByteArray.toList_eq]
        have hyx : ltL y.name x.name = true := pair_at (S := fun a b => ltL a b = true) HA.out (i := j) (j := j + 1) (by rw [List.getElem?_map, hy]; rfl) (by rw [List.getElem?_map, hx]; rfl) (by omega)
        cases h : ltL x.name y.name with
        | false => simpa using h
        | true =>
          have := ltL_trans _ _ _ hyx h
          rw [ltL_irrefl] at this
          cases this
      have h1 : (j : Int) + 1 < (n : Int) := by omega
      have h2 : decide ((j : Int) + 1 < (n : Int)) = true := by rw [decide_eq_true_iff]; omega
      have h3 : (0 : Int) < (j : Int) + 1 := by omega
      have h4 : decide ((0 : Int) < (j : Int) + 1) = true := by rw [decide_eq_true_iff]; omega
      have h5 : (0 : Int) ≤ (j : Int) := by omega
      have h6 : (j : Int) < (n : Int) := by omega
      have h7 : ((j : Int) + 1).toNat = j + 1 := by omega
      have h8 : (0 : Int) ≤ (j : Int) + 1 := by omega
      have h9 : IntKind.i64.wrap ((j : Int) + 1 + 1) = (j : Int) + 1 + 1 := by rw [IntWalk.i64_in _ (by omega)]
      clear hx hy
      generalize B x.name = nx at *
      generalize B y.name = ny at *
      go_wp2_with fail
      refine wp_loop_rounds 1 ?_
      rw [rounds_succ]
      go_wp2_with fail
      go_quiet (fail)
      go_wp2_with fail
      go_roundw
      case rel => exact ⟨j + 1, _, by omega, by simp, by rw [Hq.out, World.drewN_drewN]⟩
      case measure => simp [intOf]; omega
    · obtain rfl : j + 1 = n := by omega
      have h2 : decide ((j : Int) + 1 < ((j + 1 : Nat) : Int)) = false := by simp
      go_wp2_with fail
      go_ret
      rw [← Hn.out]
      exact ⟨⟨_, _, rfl, HK2.out.later Hbq.out⟩, then_bel Hb2.out Hbq.out⟩
end Go.Proofs.YtbelnaiekbfoiaaGreatDoor.ky
/- The document's standard set. No conditions. -/
namespace Go.Proofs.YtbelnaiekbfoiaaGreatDoor.ky
open Go.ChangeShapes Go.WideShapes Go.ChangeAt Go.RowKit gl va ls

set_option maxHeartbeats 400000 in
set_option maxRecDepth 100000 in
theorem refLetter_nil (b : Nat) (L : List Ky) (w : World) (hR : RefK w b L) (hlen : L.length ≤ 4294967295) :
    Calls Tryz.prog 91 #[.pointer (some ⟨b, 0, none⟩), .string (B [])] w fun e w' => e = .returned (foundV (lettK L [])) ∧ Below w.heap.size w w' := by
  obtain ⟨wA, hA⟩ : ∃ wA, wA = w.alloc (.cells #[.string ⟨#[]⟩, .int .i64 0, .string ⟨#[]⟩, .int .i64 0, .int .i64 0, .string ⟨#[]⟩] 79) := ⟨_, rfl⟩
  have kA : wA.heap[w.heap.size]? = some (.cells #[.string ⟨#[]⟩, .int .i64 0, .string ⟨#[]⟩, .int .i64 0, .int .i64 0, .string ⟨#[]⟩] 79 (0, 0)) := by rw [hA]; exact heap_alloc_new w _
  have hbA : Below w.heap.size w wA := by rw [hA]; exact (Below.refl _ _).alloc (Nat.le_refl _) _
  obtain ⟨p, c, hblk, hrw⟩ := hR
  have HP := Lib.hid hrw.ptr.2.2
  have HR := Lib.hid (hrw.later hbA)
  have HbA := Lib.hid hbA
  have HA := Lib.hid hA
  have hblkA := (hbA.block b (lt_of_block hblk)).trans hblk
  have c0 : wA.cell? ⟨b, 0, none⟩ = some (.slice p L.length c) := cell_in hblkA
  have hbw : b < wA.heap.size := lt_of_block hblkA
  have hk1 := kA
  have Hk1 := Lib.hid hk1
  have a0 : wA.cell? ⟨w.heap.size, 0, none⟩ = some (.string ⟨#[]⟩) := cell_in hk1
  have a1 : wA.cell? ⟨w.heap.size, 1, none⟩ = some (.int .i64 0) := cell_in hk1
  have a2 : wA.cell? ⟨w.heap.size, 2, none⟩ = some (.string ⟨#[]⟩) := cell_in hk1
  have a3 : wA.cell? ⟨w.heap.size, 3, none⟩ = some (.int .i64 0) := cell_in hk1
  have a4 : wA.cell? ⟨w.heap.size, 4, none⟩ = some (.int .i64 0) := cell_in hk1
  have a5 : wA.cell? ⟨w.heap.size, 5, none⟩ = some (.string ⟨#[]⟩) := cell_in hk1
  have f0 : wA.frozen? ⟨w.heap.size, 0, none⟩ = false := free_in hk1
  have f1 : wA.frozen? ⟨w.heap.size, 1, none⟩ = false := free_in hk1
  have f2 : wA.frozen? ⟨w.heap.size, 2, none⟩ = false := free_in hk1
  have f3 : wA.frozen? ⟨w.heap.size, 3, none⟩ = false := free_in hk1
  have f4 : wA.frozen? ⟨w.heap.size, 4, none⟩ = false := free_in hk1
  have f5 : wA.frozen? ⟨w.heap.size, 5, none⟩ = false := free_in hk1
  have hgwA : w.heap.size < wA.heap.size := lt_of_block hk1
  obtain ⟨tt, htt⟩ : ∃ tt, tt = B [] := ⟨_, rfl⟩
  have e2 : (tt.toList == (⟨#[]⟩ : ByteArray).toList) = true := by rw [htt]; exact (str_eq [] []).trans (by decide)
  have e3 : (tt.toList != (⟨#[]⟩ : ByteArray).toList) = false := by rw [bne, e2]; rfl
  have e4 : tt.toList.isEmpty = true := by
    have h : tt.toList = [] := by rw [htt, ByteArray.toList_eq]
    rw [h]
    rfl
  rw [← htt]
  have Hf : Hid (lettK L [] = none) := Lib.hid (by unfold lettK; rw [if_pos rfl])
  clear htt
  clear hbA hA hrw hblk hblkA kA hk1
  have Hb : Hid (∀ x : Ky, x ∈ L → True) := Lib.hid fun _ _ => trivial
  go_enter Tryz.func91, Tryz.ntmps91
  go_wp2_with fail
  go_loopw [6] (fun i wr => i = .int .i64 0 ∧ wr = wA) (fun _ _ => 0)
  case atStart => exact ⟨rfl, HA.out.symm⟩
  case round =>
    obtain ⟨rfl, hwr⟩ := hrel
    obtain rfl : wA = wr := hwr.symm
    have hk1 := Hk1.out
    rcases Nat.eq_zero_or_pos L.length with h0 | h0
    · have q0 : decide ((0 : Int) < (L.length : Int)) = false := by rw [decide_eq_false_iff_not]; omega
      have q0' : ¬ (0 : Int) < (L.length : Int) := by omega
      have q1 : decide (0 < L.length) = false := by rw [decide_eq_false_iff_not]; omega
      have q1' : ¬ 0 < L.length := by omega
      clear h0
      have Hk2 := Lib.hid (stored hk1 (.string ⟨#[]⟩) (.int .i64 0) (.string ⟨#[]⟩) (.int .i64 0) (.int .i64 0) (.string ⟨#[]⟩))
      clear hk1
      go_wp2_with fail
      refine bodyPost_ret (results_cell_row2 rfl _ _ (w.heap.size) 79 _ _ _ rfl Hk2.out Tryz.underlying79 rfl (by kernel_rfl)) rfl ?_
      refine ⟨?_, stored_bel HbA.out (by omega) _ _ _ _ _ _⟩
      rw [Hf.out]
      rfl
    · have q0 : decide ((0 : Int) < (L.length : Int)) = true := by rw [decide_eq_true_iff]; omega
      have q0' : (0 : Int) < (L.length : Int) := by omega
      have q1 : decide (0 < L.length) = true := by rw [decide_eq_true_iff]; omega
      have q1' : 0 < L.length := by omega
      clear h0
      have Hk2 := Lib.hid (stored hk1 (.string ⟨#[]⟩) (.int .i64 0) (.string ⟨#[]⟩) (.int .i64 0) (.int .i64 0) (.string ⟨#[]⟩))
      clear hk1
      go_wp2_with fail
      refine bodyPost_ret (results_cell_row2 rfl _ _ (w.heap.size) 79 _ _ _ rfl Hk2.out Tryz.underlying79 rfl (by kernel_rfl)) rfl ?_
      refine ⟨?_, stored_bel HbA.out (by omega) _ _ _ _ _ _⟩
      rw [Hf.out]
      rfl
theorem refLetter_any (b : Nat) (L : List Ky) (t : List UInt8) (w : World) (hR : RefK w b L) (hlen : L.length ≤ 4294967295) :
    Calls Tryz.prog 91 #[.pointer (some ⟨b, 0, none⟩), .string (B t)] w fun e w' => e = .returned (foundV (lettK L t)) ∧ Below w.heap.size w w' := by
  by_cases ht : t = []
  · subst ht
    exact refLetter_nil b L w hR hlen
  · exact refLetter1_any b L t w hR hlen ht
end Go.Proofs.YtbelnaiekbfoiaaGreatDoor.ky
namespace Go.Proofs.YtbelnaiekbfoiaaGreatDoor.ky
open Go.ChangeShapes Go.WideShapes Go.ChangeAt Go.RowKit gl va ls

theorem std_len : stdK.length = 16 := by decide
set_option maxHeartbeats 2000000 in
set_option maxRecDepth 100000 in
theorem refStandard_any (w : World) : Calls Tryz.prog 35 #[] w fun e w' => (∃ b, e = .returned (.pointer (some ⟨b, 0, none⟩)) ∧ RefK w' b stdK) ∧ Below w.heap.size w w' := by
  have HR : Hid (RefK ((w.alloc (.cells #[.string ⟨#[98, 111, 111, 116, 46, 100, 114, 121]⟩, .int .i64 1, .string ⟨#[102, 97, 108, 115, 101]⟩, .int .i64 0, .int .i64 0, .string ⟨#[110]⟩, .string ⟨#[98, 111, 111, 116, 46, 108, 105, 109, 105, 116]⟩, .int .i64 2, .string ⟨#[48]⟩, .int .i64 0, .int .i64 1024, .string ⟨#[]⟩, .string ⟨#[98, 111, 111, 116, 46, 115, 101, 114, 118, 105, 99, 101, 115]⟩, .int .i64 6, .string ⟨#[108, 111, 103, 44, 110, 101, 116]⟩, .int .i64 0, .int .i64 16, .string ⟨#[115]⟩, .string ⟨#[98, 111, 111, 116, 46, 119, 111, 114, 107, 101, 114, 115]⟩, .int .i64 2, .string ⟨#[48]⟩, .int .i64 0, .int .i64 64, .string ⟨#[119]⟩, .string ⟨#[108, 111, 103, 46, 102, 105, 108, 101]⟩, .int .i64 5, .string ⟨#[36, 123, 115, 116, 111, 114, 101, 46, 100, 105, 114, 125, 47, 108, 111, 103]⟩, .int .i64 0, .int .i64 0, .string ⟨#[]⟩, .string ⟨#[108, 111, 103, 46, 107, 101, 101, 112]⟩, .int .i64 4, .string ⟨#[55, 100]⟩, .int .i64 1, .int .i64 2592000, .string ⟨#[]⟩, .string ⟨#[108, 111, 103, 46, 108, 101, 118, 101, 108]⟩, .int .i64 2, .string ⟨#[50]⟩, .int .i64 0, .int .i64 5, .string ⟨#[118]⟩, .string ⟨#[110, 101, 116, 46, 104, 111, 115, 116]⟩, .int .i64 5, .string ⟨#[108, 111, 99, 97, 108, 104, 111, 115, 116]⟩, .int .i64 0, .int .i64 0, .string ⟨#[]⟩, .string ⟨#[110, 101, 116, 46, 112, 101, 101, 114, 115]⟩, .int .i64 6, .string ⟨#[]⟩, .int .i64 0, .int .i64 16, .string ⟨#[]⟩, .string ⟨#[110, 101, 116, 46, 112, 111, 114, 116]⟩, .int .i64 2, .string ⟨#[56, 48, 56, 48]⟩, .int .i64 1, .int .i64 65535, .string ⟨#[112]⟩, .string ⟨#[110, 101, 116, 46, 116, 105, 109, 101, 111, 117, 116]⟩, .int .i64 4, .string ⟨#[51, 48, 115]⟩, .int .i64 1, .int .i64 3600, .string ⟨#[]⟩, .string ⟨#[110, 101, 116, 46, 117, 114, 108]⟩, .int .i64 5, .string ⟨#[104, 116, 116, 112, 58, 47, 47, 36, 123, 110, 101, 116, 46, 104, 111, 115, 116, 125, 58, 36, 123, 110, 101, 116, 46, 112, 111, 114, 116, 125]⟩, .int .i64 0, .int .i64 0, .string ⟨#[]⟩, .string ⟨#[115, 116, 111, 114, 101, 46, 98, 108, 111, 99, 107, 115]⟩, .int .i64 2, .string ⟨#[54, 52]⟩, .int .i64 8, .int .i64 4096, .string ⟨#[98]⟩, .string ⟨#[115, 116, 111, 114, 101, 46, 99, 97, 99, 104, 101]⟩, .int .i64 3, .string ⟨#[52, 109]⟩, .int .i64 0, .int .i64 1073741824, .string ⟨#[99]⟩, .string ⟨#[115, 116, 111, 114, 101, 46, 100, 105, 114]⟩, .int .i64 5, .string ⟨#[47, 118, 97, 114, 47, 116, 105, 110, 100, 101, 114]⟩, .int .i64 0, .int .i64 0, .string ⟨#[100]⟩, .string ⟨#[115, 116, 111, 114, 101, 46, 112, 97, 103, 101]⟩, .int .i64 3, .string ⟨#[52, 107]⟩, .int .i64 512, .int .i64 65536, .string ⟨#[]⟩] 79)).alloc (.cells #[.slice (some ⟨w.heap.size, 0, none⟩) 16 16] 149)) (w.heap.size + 1) stdK) := Lib.hid (by
    have h := heap_alloc_new (w.alloc (.cells #[.string ⟨#[98, 111, 111, 116, 46, 100, 114, 121]⟩, .int .i64 1, .string ⟨#[102, 97, 108, 115, 101]⟩, .int .i64 0, .int .i64 0, .string ⟨#[110]⟩, .string ⟨#[98, 111, 111, 116, 46, 108, 105, 109, 105, 116]⟩, .int .i64 2, .string ⟨#[48]⟩, .int .i64 0, .int .i64 1024, .string ⟨#[]⟩, .string ⟨#[98, 111, 111, 116, 46, 115, 101, 114, 118, 105, 99, 101, 115]⟩, .int .i64 6, .string ⟨#[108, 111, 103, 44, 110, 101, 116]⟩, .int .i64 0, .int .i64 16, .string ⟨#[115]⟩, .string ⟨#[98, 111, 111, 116, 46, 119, 111, 114, 107, 101, 114, 115]⟩, .int .i64 2, .string ⟨#[48]⟩, .int .i64 0, .int .i64 64, .string ⟨#[119]⟩, .string ⟨#[108, 111, 103, 46, 102, 105, 108, 101]⟩, .int .i64 5, .string ⟨#[36, 123, 115, 116, 111, 114, 101, 46, 100, 105, 114, 125, 47, 108, 111, 103]⟩, .int .i64 0, .int .i64 0, .string ⟨#[]⟩, .string ⟨#[108, 111, 103, 46, 107, 101, 101, 112]⟩, .int .i64 4, .string ⟨#[55, 100]⟩, .int .i64 1, .int .i64 2592000, .string ⟨#[]⟩, .string ⟨#[108, 111, 103, 46, 108, 101, 118, 101, 108]⟩, .int .i64 2, .string ⟨#[50]⟩, .int .i64 0, .int .i64 5, .string ⟨#[118]⟩, .string ⟨#[110, 101, 116, 46, 104, 111, 115, 116]⟩, .int .i64 5, .string ⟨#[108, 111, 99, 97, 108, 104, 111, 115, 116]⟩, .int .i64 0, .int .i64 0, .string ⟨#[]⟩, .string ⟨#[110, 101, 116, 46, 112, 101, 101, 114, 115]⟩, .int .i64 6, .string ⟨#[]⟩, .int .i64 0, .int .i64 16, .string ⟨#[]⟩, .string ⟨#[110, 101, 116, 46, 112, 111, 114, 116]⟩, .int .i64 2, .string ⟨#[56, 48, 56, 48]⟩, .int .i64 1, .int .i64 65535, .string ⟨#[112]⟩, .string ⟨#[110, 101, 116, 46, 116, 105, 109, 101, 111, 117, 116]⟩, .int .i64 4, .string ⟨#[51, 48, 115]⟩, .int .i64 1, .int .i64 3600, .string ⟨#[]⟩, .string ⟨#[110, 101, 116, 46, 117, 114, 108]⟩, .int .i64 5, .string ⟨#[104, 116, 116, 112, 58, 47, 47, 36, 123, 110, 101, 116, 46, 104, 111, 115, 116, 125, 58, 36, 123, 110, 101, 116, 46, 112, 111, 114, 116, 125]⟩, .int .i64 0, .int .i64 0, .string ⟨#[]⟩, .string ⟨#[115, 116, 111, 114, 101, 46, 98, 108, 111, 99, 107, 115]⟩, .int .i64 2, .string ⟨#[54, 52]⟩, .int .i64 8, .int .i64 4096, .string ⟨#[98]⟩, .string ⟨#[115, 116, 111, 114, 101, 46, 99, 97, 99, 104, 101]⟩, .int .i64 3, .string ⟨#[52, 109]⟩, .int .i64 0, .int .i64 1073741824, .string ⟨#[99]⟩, .string ⟨#[115, 116, 111, 114, 101, 46, 100, 105, 114]⟩, .int .i64 5, .string ⟨#[47, 118, 97, 114, 47, 116, 105, 110, 100, 101, 114]⟩, .int .i64 0, .int .i64 0, .string ⟨#[100]⟩, .string ⟨#[115, 116, 111, 114, 101, 46, 112, 97, 103, 101]⟩, .int .i64 3, .string ⟨#[52, 107]⟩, .int .i64 512, .int .i64 65536, .string ⟨#[]⟩] 79)) (.cells #[.slice (some ⟨w.heap.size, 0, none⟩) 16 16] 149)
    rw [World.size_alloc] at h
    exact ⟨_, 16, h, (kys_lit (l := stdK) (heap_alloc_new w _) rfl).later ((Below.refl _ _).alloc (Nat.le_refl _) _)⟩)
  have Hb : Hid (Below w.heap.size w ((w.alloc (.cells #[.string ⟨#[98, 111, 111, 116, 46, 100, 114, 121]⟩, .int .i64 1, .string ⟨#[102, 97, 108, 115, 101]⟩, .int .i64 0, .int .i64 0, .string ⟨#[110]⟩, .string ⟨#[98, 111, 111, 116, 46, 108, 105, 109, 105, 116]⟩, .int .i64 2, .string ⟨#[48]⟩, .int .i64 0, .int .i64 1024, .string ⟨#[]⟩, .string ⟨#[98, 111, 111, 116, 46, 115, 101, 114, 118, 105, 99, 101, 115]⟩, .int .i64 6, .string ⟨#[108, 111, 103, 44, 110, 101, 116]⟩, .int .i64 0, .int .i64 16, .string ⟨#[115]⟩, .string ⟨#[98, 111, 111, 116, 46, 119, 111, 114, 107, 101, 114, 115]⟩, .int .i64 2, .string ⟨#[48]⟩, .int .i64 0, .int .i64 64, .string ⟨#[119]⟩, .string ⟨#[108, 111, 103, 46, 102, 105, 108, 101]⟩, .int .i64 5, .string ⟨#[36, 123, 115, 116, 111, 114, 101, 46, 100, 105, 114, 125, 47, 108, 111, 103]⟩, .int .i64 0, .int .i64 0, .string ⟨#[]⟩, .string ⟨#[108, 111, 103, 46, 107, 101, 101, 112]⟩, .int .i64 4, .string ⟨#[55, 100]⟩, .int .i64 1, .int .i64 2592000, .string ⟨#[]⟩, .string ⟨#[108, 111, 103, 46, 108, 101, 118, 101, 108]⟩, .int .i64 2, .string ⟨#[50]⟩, .int .i64 0, .int .i64 5, .string ⟨#[118]⟩, .string ⟨#[110, 101, 116, 46, 104, 111, 115, 116]⟩, .int .i64 5, .string ⟨#[108, 111, 99, 97, 108, 104, 111, 115, 116]⟩, .int .i64 0, .int .i64 0, .string ⟨#[]⟩, .string ⟨#[110, 101, 116, 46, 112, 101, 101, 114, 115]⟩, .int .i64 6, .string ⟨#[]⟩, .int .i64 0, .int .i64 16, .string ⟨#[]⟩, .string ⟨#[110, 101, 116, 46, 112, 111, 114, 116]⟩, .int .i64 2, .string ⟨#[56, 48, 56, 48]⟩, .int .i64 1, .int .i64 65535, .string ⟨#[112]⟩, .string ⟨#[110, 101, 116, 46, 116, 105, 109, 101, 111, 117, 116]⟩, .int .i64 4, .string ⟨#[51, 48, 115]⟩, .int .i64 1, .int .i64 3600, .string ⟨#[]⟩, .string ⟨#[110, 101, 116, 46, 117, 114, 108]⟩, .int .i64 5, .string ⟨#[104, 116, 116, 112, 58, 47, 47, 36, 123, 110, 101, 116, 46, 104, 111, 115, 116, 125, 58, 36, 123, 110, 101, 116, 46, 112, 111, 114, 116, 125]⟩, .int .i64 0, .int .i64 0, .string ⟨#[]⟩, .string ⟨#[115, 116, 111, 114, 101, 46, 98, 108, 111, 99, 107, 115]⟩, .int .i64 2, .string ⟨#[54, 52]⟩, .int .i64 8, .int .i64 4096, .string ⟨#[98]⟩, .string ⟨#[115, 116, 111, 114, 101, 46, 99, 97, 99, 104, 101]⟩, .int .i64 3, .string ⟨#[52, 109]⟩, .int .i64 0, .int .i64 1073741824, .string ⟨#[99]⟩, .string ⟨#[115, 116, 111, 114, 101, 46, 100, 105, 114]⟩, .int .i64 5, .string ⟨#[47, 118, 97, 114, 47, 116, 105, 110, 100, 101, 114]⟩, .int .i64 0, .int .i64 0, .string ⟨#[100]⟩, .string ⟨#[115, 116, 111, 114, 101, 46, 112, 97, 103, 101]⟩, .int .i64 3, .string ⟨#[52, 107]⟩, .int .i64 512, .int .i64 65536, .string ⟨#[]⟩] 79)).alloc (.cells #[.slice (some ⟨w.heap.size, 0, none⟩) 16 16] 149))) := Lib.hid (((Below.refl _ _).alloc (Nat.le_refl _) _).alloc (by simp) _)
  go_enter Tryz.func35, Tryz.ntmps35
  go_wp2_with fail
  go_ret
  exact ⟨⟨_, rfl, HR.out⟩, Hb.out⟩

end Go.Proofs.YtbelnaiekbfoiaaGreatDoor.ky
/- Package layer: Merge of no given. Conditions: the set lies in memory as its list; the listed variables hold what the program's text lays. -/
namespace Go.Proofs.YtbelnaiekbfoiaaGreatDoor.ly
open Go.ChangeShapes Go.WideShapes Go.ChangeAt Go.RowKit gl va ls ky

theorem own_ne9 {w : World} {T T' : TypeId} {B0 sz m : Nat} {v : Value} {xs : List Value} {g : Nat} {cs : Array Value} (ho : w.ownsRow B0 T sz v m xs) (hg : w.heap[g]? = some (.cells cs T' (0, 0))) (ht : T' ≠ T) : some g ≠ v.ownBlock := by
  intro e
  rcases ho.2 with ⟨h1, _⟩ | ⟨q, cap, cur, h1, _, hq, _⟩
  · rw [h1] at e; cases e
  · rw [h1] at e
    exact ne_of_types hg hq ht (Option.some.inj e)
theorem own_set9 {w : World} {T T' : TypeId} {B0 sz m o : Nat} {v u : Value} {xs : List Value} {g : Nat} {cs : Array Value} (ho : w.ownsRow B0 T sz v m xs) (hg : w.heap[g]? = some (.cells cs T' (0, 0))) (ht : T' ≠ T) : (w.setCell ⟨g, o, none⟩ u).ownsRow B0 T sz v m xs :=
  ((Upd.refl [g] w).setCell (p := ⟨g, o, none⟩) (.inl (by simp)) u).row ho fun q hq hm => own_ne9 ho hg ht (by rw [hq]; rw [List.mem_singleton.1 hm])
theorem infoHd : (Tryz.prog.info? 107).map (fun i => (i.zero, i.size, i.bytes)) = some (some (.agg #[.int .i64 0, .int .i64 0, .string .empty, .slice none 0 0, .int .i64 0]), 5, 64) := by kernel_rfl
/-- Settings under way. -/
def LPart (M : Nat) (w : World) (b : Nat) (pk : Option Addr) (ck : Nat) (D : List Ky) (R : List Hd) : Prop :=
  ∃ p n c, n = R.length ∧ M ≤ b ∧ w.heap[b]? = some (.cells #[.slice pk D.length ck, .slice p n c] 91 (0, 0)) ∧ NewKs M w (.slice pk D.length ck) D ∧ w.ownsRow M 107 5 (.slice p n c) n (rw.flat hdC R) ∧ Wds M w R
theorem LPart.later {M : Nat} {w w' : World} {b ck : Nat} {pk : Option Addr} {D : List Ky} {R : List Hd} (h : LPart M w b pk ck D R) (hb : Below w.heap.size w w') : LPart M w' b pk ck D R := by
  obtain ⟨p, n, c, h0, h1, h2, h3, h4, h5⟩ := h
  exact ⟨p, n, c, h0, h1, (hb.block b (lt_of_block h2)).trans h2, h3.later hb, ls.own_kept h4 hb, h5.later hb⟩
theorem LPart.lt {M : Nat} {w : World} {b ck : Nat} {pk : Option Addr} {D : List Ky} {R : List Hd} (h : LPart M w b pk ck D R) : b < w.heap.size := by
  obtain ⟨p, n, c, h0, h1, h2, h3, h4, h5⟩ := h
  exact lt_of_block h2
theorem LPart.done {M : Nat} {w : World} {b ck : Nat} {pk : Option Addr} {D : List Ky} {R : List Hd} (h : LPart M w b pk ck D R) (hl : R.length = D.length) : ∃ hs, LSet M w b hs D R := by
  obtain ⟨p, n, c, h0, h1, h2, h3, h4, h5⟩ := h
  subst h0
  exact ⟨_, h1, hl, ⟨_, h2, h3⟩, Blk.of_own h4, h5⟩
theorem lpart_grown {M : Nat} {w0 w w5 : World} {b n g' cap' c ck : Nat} {pk p : Option Addr} {D : List Ky} {R : List Hd} {x : Hd} (hn : n = R.length) (hb : M ≤ b) (hM : M ≤ w.heap.size) (h2 : w.heap[b]? = some (.cells #[.slice pk D.length ck, .slice p n c] 91 (0, 0))) (hk : NewKs M w (.slice pk D.length ck) D) (h3 : w.ownsRow M 107 5 (.slice p n c) n (rw.flat hdC R)) (hW : Wds M w R) (hx : NewWd M w x.sl x.v.words) (hB : Below M w0 w)
    (ho : w5.ownsRow M 107 5 (.slice (some ⟨g', 0, none⟩) (n + 1) cap') (n + 1) (rw.flat hdC R ++ hdC x)) (hg : w.grownBy w5 (Value.slice p n c).ownBlock) :
    LPart M (w5.setCell ⟨b, 1, none⟩ (.slice (some ⟨g', 0, none⟩) (n + 1) cap')) b pk ck D (R ++ [x]) ∧ Below M w0 (w5.setCell ⟨b, 1, none⟩ (.slice (some ⟨g', 0, none⟩) (n + 1) cap')) := by
  have k2 := (hg.block b (lt_of_block h2) (own_ne9 h3 h2 (by decide))).trans h2
  have s1 : SK 9 w w5 := SK.own (by decide) h3 hg
  have s2 : SK 79 w w5 := SK.own (by decide) h3 hg
  have hU : Upd [b] w5 (w5.setCell ⟨b, 1, none⟩ (.slice (some ⟨g', 0, none⟩) (n + 1) cap')) := (Upd.refl _ _).setCell (p := ⟨b, 1, none⟩) (.inl (by simp)) _
  have hS : ∀ q ∈ [b], ∃ cs, w5.heap[q]? = some (.cells cs 91 (0, 0)) := fun q hq => by rw [List.mem_singleton] at hq; subst hq; exact ⟨_, k2⟩
  have u1 : SK 9 w5 (w5.setCell ⟨b, 1, none⟩ (.slice (some ⟨g', 0, none⟩) (n + 1) cap')) := sk_upd hU hS (by decide)
  have u2 : SK 79 w5 (w5.setCell ⟨b, 1, none⟩ (.slice (some ⟨g', 0, none⟩) (n + 1) cap')) := sk_upd hU hS (by decide)
  refine ⟨⟨_, n + 1, _, by simp [hn], hb, heap_set k2 _, (hk.keep s2).keep u2, ?_, ((hW.keep s1).keep u1).snoc ((hx.keep s1).keep u1)⟩, (below_grown_own hB h3 hg hM).setCell (p := ⟨b, 1, none⟩) hb _⟩
  rw [rw.flat_snoc]
  exact own_set9 ho k2 (by decide)
theorem results_tmp4 {fn : Func} {t u v x : Tmp} (h : fn.results = #[.tmp t, .tmp u, .tmp v, .tmp x]) (tmps : Array Value) (P : Program) (w : World) :
    (results fn tmps).run P w = .ok (.tuple #[tmps.getD t undef, tmps.getD u undef, tmps.getD v undef, tmps.getD x undef]) w := by
  simp [results, h]
theorem rises0 (w : World) : Calls Tryz.prog 69 #[.slice none 0 0] w fun e w' => e = .returned (.bool true) ∧ w' = w := by
  go_enter Tryz.func69, Tryz.ntmps69
  go_wp2_with fail
  refine wp_loop_rounds 1 ?_
  rw [rounds_succ]
  go_wp2_with fail
  go_ret
  exact ⟨rfl, rfl⟩
noncomputable def dfltV (k : Ky) : Vs := ⟨(parse wordL k.kind k.dflt).1, 0⟩
set_option maxHeartbeats 4000000 in
set_option maxRecDepth 100000 in
theorem Merge0_any (M s : Nat) (D : List Ky) (w : World) (hS : SetK M w s D) (hV : Vlo w) :
    Calls Tryz.prog 28 #[.pointer (some ⟨s, 0, none⟩), .slice none 0 0, .slice none 0 0] w fun e w' => (∃ b hs R, e = .returned (.tuple #[.pointer (some ⟨b, 0, none⟩), .int .i64 0, .int .i64 0, .int .i64 0]) ∧ LSet w.heap.size w' b hs D R ∧ R.map Hd.vs = D.map dfltV) ∧ Below w.heap.size w w' := by
  obtain ⟨i1, si, sz0, sz1, sz2⟩ := info_parts infoHd
  have hlen := hS.len
  have Hok := Lib.hid hS.ok
  have HA := Lib.hid (ky.All_any M s D w hS)
  have HV := Lib.hid fun W (h : Below w.heap.size w W) => hV.below h (Nat.le_refl _)
  clear hS hV
  obtain ⟨n, hDn⟩ : ∃ n, n = D.length := ⟨_, rfl⟩
  rw [← hDn] at HA hlen
  have HDn := Lib.hid hDn
  clear hDn
  go_enter Tryz.func28, Tryz.ntmps28
  go_wp2_with fail
  refine (rises0 w).mono ?_
  rintro e w1 ⟨rfl, rfl⟩
  go_wp2_with fail
  refine HA.out.mono ?_
  rintro e w2 ⟨⟨p, rfl, hn2⟩, hb2⟩
  have HN2 := Lib.hid hn2
  have Hb2 := Lib.hid hb2
  clear hn2 hb2 HA
  go_upto_region 4 with fail
  refine go_nm (fun wA hA => ?_)
  have kA : wA.heap[w2.heap.size]? = some (.cells #[.slice p n n, .slice none 0 0] 91 (0, 0)) := by rw [hA]; exact heap_alloc_new w2 _
  have hbA : Below w2.heap.size w2 wA := by rw [hA]; exact (Below.refl _ _).alloc (Nat.le_refl _) _
  have hMb : w1.heap.size ≤ w2.heap.size := Hb2.out.size
  have hlA := lt_of_block kA
  have HLP : Hid (LPart w1.heap.size wA w2.heap.size p n D []) := Lib.hid ⟨none, 0, 0, rfl, hMb, by rw [← HDn.out]; exact kA, by rw [← HDn.out]; exact HN2.out.later hbA, World.ownsRow_nil _ _ _ _, fun x hx => by simp at hx⟩
  have HbA := Lib.hid (Hb2.out.trans (hbA.mono hMb))
  have a0 : wA.cell? ⟨w2.heap.size, 0, none⟩ = some (.slice p n n) := cell_in kA
  clear hA kA hbA HN2 Hb2
  generalize w2.heap.size = b at *
  go_wp2_with fail
  go_loopw [48] (fun vi wr => ∃ (j : Nat) (R : List Hd), j ≤ n ∧ vi = .int .i64 j ∧ Hid (R.map Hd.vs = (D.take j).map dfltV) ∧ Hid (LPart w1.heap.size wr b p n D R) ∧ Hid (Below w1.heap.size w1 wr)) (fun vi _ => n - (intOf vi).toNat)
  case atStart => exact ⟨0, [], by omega, rfl, Lib.hid rfl, HLP, HbA⟩
  case round =>
    clear HLP HbA a0 hlA
    obtain ⟨wo, rfl⟩ : ∃ wo, wo = wr := ⟨_, rfl⟩
    obtain ⟨j, R, hj, rfl, HR, HP, Hb⟩ := hrel
    have hzo : w1.heap.size ≤ wo.heap.size := Hb.out.size
    have hRl : R.length = j := by
      have := congrArg List.length HR.out
      rw [List.length_map, List.length_map, List.length_take] at this
      have := HDn.out
      omega
    have HRl := Lib.hid hRl
    by_cases hlt : j < n
    · have q1 : decide ((j : Int) < (n : Int)) = true := by rw [decide_eq_true_iff]; omega
      have q2 : decide (j < n) = true := by rw [decide_eq_true_iff]; omega
      have hji : (j : Int) < (n : Int) := by omega
      have hj0 : (0 : Int) ≤ (j : Int) := by omega
      obtain ⟨k, hk⟩ : ∃ k, D[j]? = some k := ⟨_, List.getElem?_eq_getElem (by rw [← HDn.out]; exact hlt)⟩
      have hKr : Kys wo (.slice p n n) D := by
        obtain ⟨_, _, _, _, _, _, hk, _⟩ := HP.out
        rw [← HDn.out] at hk
        exact hk.rw kyC_len
      obtain ⟨gk, ok, rfl, hgk⟩ := hKr.ptr.2.2 (by omega)
      obtain ⟨k0, k1, k2, k3, k4, k5⟩ := ky_cells hKr hk
      have hko := Hok.out k (List.mem_of_getElem? hk)
      have HPz := Lib.hid fun (W : World) (hW : Below w1.heap.size w1 W) => Parse_any k.kind (B k.dflt) (by rw [show (B k.dflt).size = k.dflt.length from by simp [ByteArray.size]]; exact hko.2.1) W (HV.out W hW)
      have hpar : (B k.dflt).data.toList = k.dflt := by simp
      rw [hpar] at HPz
      have Hk := Lib.hid hk
      clear hKr hk hko hpar hRl
      have HVs : Hid ((parse wordL k.kind k.dflt).1 = (dfltV k).v) := Lib.hid rfl
      generalize parse wordL k.kind k.dflt = pr at *
      obtain ⟨⟨vk, vn, vt, vw⟩, pe⟩ := pr
      unfold ParseOut res rep at HPz
      simp only at HPz HVs
      go_upto_region 7 with fail
      refine go_nm (fun wK hK => ?_)
      have kK : wK.heap[wo.heap.size]? = some (.cells #[.string (B k.name), .int .i64 k.kind, .string (B k.dflt), .int .i64 k.least, .int .i64 k.most, .string (B k.letter)] 79 (0, 0)) := by rw [hK]; exact heap_alloc_new wo _
      have hbK : Below wo.heap.size wo wK := by rw [hK]; exact (Below.refl _ _).alloc (Nat.le_refl _) _
      have HPK := Lib.hid (HP.out.later hbK)
      have HbK := Lib.hid (Hb.out.trans (hbK.mono hzo))
      have d1 : wK.cell? ⟨wo.heap.size, 1, none⟩ = some (.int .i64 k.kind) := cell_in kK
      have d2 : wK.cell? ⟨wo.heap.size, 2, none⟩ = some (.string (B k.dflt)) := cell_in kK
      have hlK := lt_of_block kK
      have hzK : w1.heap.size ≤ wK.heap.size := HbK.out.size
      clear hK kK hbK k0 k1 k2 k3 k4 k5 HP
      go_wp2_with fail
      refine (HPz.out wK HbK.out).mono ?_
      rintro e w4 ⟨⟨sl, rfl, hfr⟩, hb4⟩
      have hnw := fresh_wd hfr
      obtain ⟨pw, cw, rfl⟩ := hnw.form
      have HNW := Lib.hid (rw.NewRw.mono hnw hzK)
      have HP4 := Lib.hid (HPK.out.later hb4)
      have Hb4 := Lib.hid (HbK.out.trans (hb4.mono hzK))
      have hz4 : w1.heap.size ≤ w4.heap.size := Hb4.out.size
      clear hfr hb4 hnw d1 d2 hlK HPz HPK
      go_upto_region 8 with fail
      refine go_nm (fun wC hC => ?_)
      have kC : wC.heap[w4.heap.size]? = some (.cells #[.int .i64 vk, .int .i64 vn, .string vt, .slice pw vw.length cw] 45 (0, 0)) := by rw [hC]; exact heap_alloc_new w4 _
      have hbC : Below w4.heap.size w4 wC := by rw [hC]; exact (Below.refl _ _).alloc (Nat.le_refl _) _
      have HPC := Lib.hid (HP4.out.later hbC)
      have HNC := Lib.hid (rw.NewRw.later HNW.out hbC)
      have HbC := Lib.hid (Hb4.out.trans (hbC.mono hz4))
      have c0 : wC.cell? ⟨w4.heap.size, 0, none⟩ = some (.int .i64 vk) := cell_in kC
      have c1 : wC.cell? ⟨w4.heap.size, 1, none⟩ = some (.int .i64 vn) := cell_in kC
      have c2 : wC.cell? ⟨w4.heap.size, 2, none⟩ = some (.string vt) := cell_in kC
      have c3 : wC.cell? ⟨w4.heap.size, 3, none⟩ = some (.slice pw vw.length cw) := cell_in kC
      have cl := lt_of_block kC
      have hzC : w1.heap.size ≤ wC.heap.size := HbC.out.size
      obtain ⟨pL, nL, cL, hnL, hMb2, kL, hkeys, ownL, hwds⟩ := HPC.out
      obtain rfl : nL = j := by rw [hnL, HRl.out]
      have r0 : wC.cell? ⟨b, 1, none⟩ = some (.slice pL nL cL) := cell_in kL
      have rl := lt_of_block kL
      have HkL := Lib.hid kL
      have HoL := Lib.hid ownL
      have HGr := Lib.hid fun (w5 : World) (g' cap' : Nat) => fun ho hg => lpart_grown (w0 := w1) (w5 := w5) (g' := g') (cap' := cap') (x := ⟨⟨vk, vn, vt, vw⟩, pw, cw, 0⟩) hnL hMb2 hzC kL hkeys ownL hwds HNC.out HbC.out ho hg
      have Hne := Lib.hid (own_ne9 HoL.out HkL.out (by decide))
      have HR2 : Hid ((R ++ [(⟨⟨vk, vn, vt, vw⟩, pw, cw, 0⟩ : Hd)]).map Hd.vs = (D.take (nL + 1)).map dfltV) := Lib.hid (by
        rw [List.map_append, HR.out, List.take_add_one, Hk.out]
        simp only [Option.toList, List.map_append, List.map_cons, List.map_nil]
        congr 2
        show Vs.mk _ _ = _
        rw [HVs.out]
        rfl)
      clear hC kC hbC HP4 HNW HPC kL ownL hkeys hwds hnL
      go_region_law (first
        | (refine step_append_k (by rfl) _ _ 89 (by rfl) 107 i1 _ 5 64 Tryz.underlying89 si sz0 sz1 sz2 rfl (by omega) _ (by rfl) (by rfl) w1.heap.size _ nL _ (by rfl) HoL.out (by simp [Value.oneCell']) (by omega) (by omega) hzC ?_; intro g8 c8 w8 hown8 hgrow8 _ _ _; have HGo := Lib.hid (HGr.out w8 g8 c8 hown8 hgrow8); have k3 := (hgrow8.block _ (lt_of_block HkL.out) Hne.out).trans HkL.out; have q3 : w8.cell? ⟨b, 1, none⟩ = some (.slice pL nL cL) := cell_in k3; have q4 : w8.frozen? ⟨b, 1, none⟩ = false := free_in k3; have q5 := lt_of_block k3; clear hown8 hgrow8 k3)
        | (refine step_append_k0 (by rfl) _ _ 89 (by rfl) 107 i1 _ 5 64 Tryz.underlying89 si sz0 sz1 sz2 rfl (by omega) _ (by rfl) (by rfl) w1.heap.size _ nL _ (by rfl) HoL.out (by simp [Value.oneCell']) (by omega) (by omega) hzC ?_; intro g8 c8 w8 hown8 hgrow8 _ _ _; have HGo := Lib.hid (HGr.out w8 g8 c8 hown8 hgrow8); have k3 := (hgrow8.block _ (lt_of_block HkL.out) Hne.out).trans HkL.out; have q3 : w8.cell? ⟨b, 1, none⟩ = some (.slice pL nL cL) := cell_in k3; have q4 : w8.frozen? ⟨b, 1, none⟩ = false := free_in k3; have q5 := lt_of_block k3; clear hown8 hgrow8 k3)
        | fail)
      all_goals
        go_wp2_with fail
        go_roundw
        case rel => exact ⟨nL + 1, _, by omega, by go_num, HR2, Lib.hid HGo.out.1, Lib.hid HGo.out.2⟩
        case measure => simp [intOf]; omega
    · obtain rfl : j = n := by omega
      have q1 : decide ((j : Int) < (j : Int)) = false := by rw [decide_eq_false_iff_not]; omega
      have q2 : decide (j < j) = false := by rw [decide_eq_false_iff_not]; omega
      obtain ⟨hs, hL⟩ := HP.out.done (by rw [hRl]; exact HDn.out)
      have HRf : Hid (R.map Hd.vs = D.map dfltV) := Lib.hid (by rw [HR.out, List.take_of_length_le (by rw [← HDn.out]; exact Nat.le_refl _)])
      have HL := Lib.hid hL
      clear hL hRl
      go_wp2_with fail
      refine wp_loop_rounds 1 ?_
      rw [rounds_succ]
      go_wp2_with fail
      try simp only [Exit.inBlock, Exit.then]
      refine bodyPost_ret (results_tmp4 rfl _ _ _) rfl ?_
      exact ⟨⟨b, hs, R, rfl, HL.out, HRf.out⟩, Hb.out⟩
end Go.Proofs.YtbelnaiekbfoiaaGreatDoor.ly
/- Package layer: Copy. Conditions: the settings lie in memory; words of at most 4294967295 texts. -/
namespace Go.Proofs.YtbelnaiekbfoiaaGreatDoor.ly
open Go.ChangeShapes Go.WideShapes Go.ChangeAt Go.RowKit gl va ls ky

theorem cloneK_any (p : Option Addr) (m c : Nat) (l : List Ky) (hm : m ≤ 4294967295) (w : World) (h : Kys w (.slice p m c) l) :
    Calls Tryz.prog 48 #[.slice p m c] w fun e w' => (∃ p' c', e = .returned (.slice p' m c') ∧ NewKs w.heap.size w' (.slice p' m c') l) ∧ Below w.heap.size w w' := by
  have hl := h.ptr.1
  refine (clone_list Tryz.cloneKy kyC_len kyC_one (by decide) infoK rfl (by decide) Tryz.sizeOf79 p m c l hm w h).mono ?_
  rintro e w' ⟨v, rfl, hv, hb⟩
  have hn := rw.own_new kyC_len (by decide) hv
  obtain ⟨p', c', rfl⟩ := hn.form
  rw [hl] at hn ⊢
  exact ⟨⟨p', c', rfl, hn⟩, hb⟩
set_option maxHeartbeats 4000000 in
set_option maxRecDepth 100000 in
theorem Copy_any (M b : Nat) (hs : Value) (D : List Ky) (R : List Hd) (hn : D.length ≤ 1000000) (hm : ∀ x ∈ R, x.v.words.length ≤ 4294967295) (w : World) (h : LSet M w b hs D R) :
    Calls Tryz.prog 19 #[.pointer (some ⟨b, 0, none⟩)] w fun e w' => (∃ y hs' R', e = .returned (.pointer (some ⟨y, 0, none⟩)) ∧ LSet w.heap.size w' y hs' D R' ∧ R'.map Hd.vs = R.map Hd.vs) ∧ Below w.heap.size w w' := by
  obtain ⟨i1, si, sz0, sz1, sz2⟩ := info_parts infoHd
  obtain ⟨p, c, pk, ck, rfl, hblk, hK⟩ := h.form
  have HC0 := Lib.hid fun (W : World) (hW : Below w.heap.size w W) => (hW.block _ (lt_of_block hblk)).trans hblk
  have HLS := Lib.hid fun (W : World) (hW : Below w.heap.size w W) => h.later hW
  have HCl := Lib.hid (cloneK_any pk D.length ck D (by omega) w (hK.rw kyC_len))
  have b0 : w.cell? ⟨b, 0, none⟩ = some (.slice pk D.length ck) := cell_in hblk
  have hlt := lt_of_block hblk
  have HOw := Lib.hid fun (x : Hd) (hx : x ∈ R) (W : World) (hW : Below w.heap.size w W) => ownE x.v x.sl (hm x hx) W ((h.later hW).wds x hx).strs
  have hpt : 0 < D.length → ∃ g, p = some ⟨g, 0, none⟩ ∧ g < w.heap.size := fun h0 => by
    have hH := h.held
    rw [h.len] at hH
    obtain ⟨g, cs, e, _, _, hgb, _, _⟩ := hH.at_ h0
    exact ⟨g, e, lt_of_block hgb⟩
  have Hpt := Lib.hid hpt
  have Hlen := Lib.hid h.len
  obtain ⟨n, hDn⟩ : ∃ n, n = D.length := ⟨_, rfl⟩
  rw [← hDn] at b0 HC0 HCl hn Hpt Hlen HLS
  have HDn := Lib.hid hDn
  clear h hblk hK hDn hm hpt
  go_enter Tryz.func19, Tryz.ntmps19
  go_wp2_with fail
  refine HCl.out.mono ?_
  rintro e w2 ⟨⟨p2, c2, rfl, hn2⟩, hb2⟩
  have HN2 := Lib.hid hn2
  have Hb2 := Lib.hid hb2
  clear hn2 hb2 HCl b0
  go_upto_region 2 with fail
  refine go_nm (fun wA hA => ?_)
  have kA : wA.heap[w2.heap.size]? = some (.cells #[.slice p2 n c2, .slice none 0 0] 91 (0, 0)) := by rw [hA]; exact heap_alloc_new w2 _
  have hbA : Below w2.heap.size w2 wA := by rw [hA]; exact (Below.refl _ _).alloc (Nat.le_refl _) _
  have hMb : w.heap.size ≤ w2.heap.size := Hb2.out.size
  have HLP : Hid (LPart w.heap.size wA w2.heap.size p2 c2 D []) := Lib.hid ⟨none, 0, 0, rfl, hMb, by rw [← HDn.out]; exact kA, by rw [← HDn.out]; exact HN2.out.later hbA, World.ownsRow_nil _ _ _ _, fun x hx => by simp at hx⟩
  have HbA := Lib.hid (Hb2.out.trans (hbA.mono hMb))
  have b1 : wA.cell? ⟨b, 1, none⟩ = some (.slice p n c) := cell_in (HC0.out _ HbA.out)
  have hbl : b < wA.heap.size := by have := HbA.out.size; omega
  clear hA kA hbA HN2 Hb2
  generalize w2.heap.size = y at *
  go_wp2_with fail
  go_loopw [20] (fun vi wr => ∃ (j : Nat) (R' : List Hd), j ≤ n ∧ vi = .int .i64 j ∧ Hid (R'.map Hd.vs = (R.take j).map Hd.vs) ∧ Hid (LPart w.heap.size wr y p2 c2 D R') ∧ Hid (Below w.heap.size w wr)) (fun vi _ => n - (intOf vi).toNat)
  case atStart => exact ⟨0, [], by omega, rfl, Lib.hid rfl, HLP, HbA⟩
  case round =>
    clear HLP HbA b1 hbl
    obtain ⟨wo, rfl⟩ : ∃ wo, wo = wr := ⟨_, rfl⟩
    obtain ⟨j, R', hj, rfl, HR, HP, Hb⟩ := hrel
    have hzo : w.heap.size ≤ wo.heap.size := Hb.out.size
    have hRl : R'.length = j := by
      have := congrArg List.length HR.out
      rw [List.length_map, List.length_map, List.length_take] at this
      have := Hlen.out
      omega
    have HRl := Lib.hid hRl
    by_cases hlt2 : j < n
    · have q1 : decide ((j : Int) < (n : Int)) = true := by rw [decide_eq_true_iff]; omega
      have q2 : decide (j < n) = true := by rw [decide_eq_true_iff]; omega
      have hji : (j : Int) < (n : Int) := by omega
      have hj0 : (0 : Int) ≤ (j : Int) := by omega
      obtain ⟨x, hx⟩ : ∃ x, R[j]? = some x := ⟨_, List.getElem?_eq_getElem (by rw [Hlen.out]; exact hlt2)⟩
      obtain ⟨g, rfl, hg⟩ := Hpt.out (by omega)
      obtain ⟨k0, k1, k2, k3, k4⟩ := (HLS.out _ Hb.out).cells hx
      have hgo : g < wo.heap.size := by omega
      have HOx := Lib.hid (HOw.out x (List.mem_of_getElem? hx))
      have Hx := Lib.hid hx
      have HXv : Hid (x.vs = ⟨x.v, x.src⟩) := Lib.hid rfl
      unfold Hd.sl at k3 HOx
      clear hx hRl
      obtain ⟨⟨vk, vn, vt, vw⟩, pw, cw, sr⟩ := x
      simp only at k0 k1 k2 k3 k4 HOx
      go_upto_region 5 with fail
      refine go_nm (fun wC hC => ?_)
      have kC : wC.heap[wo.heap.size]? = some (.cells #[.int .i64 vk, .int .i64 vn, .string vt, .slice pw vw.length cw, .int .i64 sr] 107 (0, 0)) := by rw [hC]; exact heap_alloc_new wo _
      have hbC : Below wo.heap.size wo wC := by rw [hC]; exact (Below.refl _ _).alloc (Nat.le_refl _) _
      have HbC := Lib.hid (Hb.out.trans (hbC.mono hzo))
      obtain ⟨pL, nL, cL, hnL, hMb2, kL, hkeys, ownL, hwds⟩ := HP.out.later hbC
      obtain rfl : nL = j := by rw [hnL, HRl.out]
      have c0 : wC.cell? ⟨wo.heap.size, 0, none⟩ = some (.int .i64 vk) := cell_in kC
      have c1 : wC.cell? ⟨wo.heap.size, 1, none⟩ = some (.int .i64 vn) := cell_in kC
      have c2' : wC.cell? ⟨wo.heap.size, 2, none⟩ = some (.string vt) := cell_in kC
      have c3 : wC.cell? ⟨wo.heap.size, 3, none⟩ = some (.slice pw vw.length cw) := cell_in kC
      have c4 : wC.cell? ⟨wo.heap.size, 4, none⟩ = some (.int .i64 sr) := cell_in kC
      have cl := lt_of_block kC
      have r0 : wC.cell? ⟨y, 1, none⟩ = some (.slice pL nL cL) := cell_in kL
      have rl := lt_of_block kL
      have hzC : w.heap.size ≤ wC.heap.size := HbC.out.size
      have HkC := Lib.hid kC
      have HkL0 := Lib.hid kL
      have Hky := Lib.hid hkeys
      have How := Lib.hid ownL
      have Hwd := Lib.hid hwds
      have HnL := Lib.hid hnL
      clear hC kC hbC kL hkeys ownL hwds hnL k0 k1 k2 k3 k4 HP
      go_region_law (first
        | (refine step_callE (by rfl) 49 _ _ (by rfl) egOwn _ (by rfl) _ (HOx.out _ (by first | exact HbC.out | exact HbC.out.drew)) ?_; rintro v w5 ⟨⟨p1, rfl, hn1⟩, hb5⟩; have hb5 : Below wC.heap.size wC w5 := (by first | exact hb5 | exact (Below.refl _ _).drew.trans hb5); have kC5 := (hb5.block _ (lt_of_block HkC.out)).trans HkC.out; have kL5 := (hb5.block _ (lt_of_block HkL0.out)).trans HkL0.out; have e4 : w5.cell? ⟨wo.heap.size, 4, none⟩ = some (.int .i64 sr) := cell_in kC5; have e1 : w5.cell? ⟨y, 1, none⟩ = some (.slice pL nL cL) := cell_in kL5; have el := lt_of_block kC5; have el2 := lt_of_block kL5; have HkL := Lib.hid kL5; have HoL := Lib.hid (ls.own_kept How.out hb5); have hz5 : w.heap.size ≤ w5.heap.size := Nat.le_trans hzC hb5.size; have HGr := Lib.hid fun (w8 : World) (g' cap' : Nat) => fun ho hg => lpart_grown (w0 := w) (w5 := w8) (g' := g') (cap' := cap') (x := ⟨⟨vk, vn, vt, vw⟩, p1, vw.length, sr⟩) HnL.out hMb2 hz5 kL5 (Hky.out.later hb5) HoL.out (Hwd.out.later hb5) (rw.NewRw.mono hn1 hzC) (HbC.out.trans (hb5.mono hzC)) ho hg; have Hne := Lib.hid (own_ne9 HoL.out HkL.out (by decide)); clear kC5 kL5 hn1 hb5)
        | (refine step_append_k (by rfl) _ _ 89 (by rfl) 107 i1 _ 5 64 Tryz.underlying89 si sz0 sz1 sz2 rfl (by omega) _ (by rfl) (by rfl) w.heap.size _ nL _ (by rfl) HoL.out (by simp [Value.oneCell']) (by omega) (by omega) hz5 ?_; intro g8 c8 w8 hown8 hgrow8 _ _ _; have HGo := Lib.hid (HGr.out w8 g8 c8 hown8 hgrow8); have k3 := (hgrow8.block _ (lt_of_block HkL.out) Hne.out).trans HkL.out; have q3 : w8.cell? ⟨y, 1, none⟩ = some (.slice pL nL cL) := cell_in k3; have q4 : w8.frozen? ⟨y, 1, none⟩ = false := free_in k3; have q5 := lt_of_block k3; clear hown8 hgrow8 k3)
        | (refine step_append_k0 (by rfl) _ _ 89 (by rfl) 107 i1 _ 5 64 Tryz.underlying89 si sz0 sz1 sz2 rfl (by omega) _ (by rfl) (by rfl) w.heap.size _ nL _ (by rfl) HoL.out (by simp [Value.oneCell']) (by omega) (by omega) hz5 ?_; intro g8 c8 w8 hown8 hgrow8 _ _ _; have HGo := Lib.hid (HGr.out w8 g8 c8 hown8 hgrow8); have k3 := (hgrow8.block _ (lt_of_block HkL.out) Hne.out).trans HkL.out; have q3 : w8.cell? ⟨y, 1, none⟩ = some (.slice pL nL cL) := cell_in k3; have q4 : w8.frozen? ⟨y, 1, none⟩ = false := free_in k3; have q5 := lt_of_block k3; clear hown8 hgrow8 k3)
        | fail)
      all_goals
        have HR2 : Hid ((R' ++ [(⟨⟨vk, vn, vt, vw⟩, p1, vw.length, sr⟩ : Hd)]).map Hd.vs = (R.take (nL + 1)).map Hd.vs) := Lib.hid (by
          rw [List.map_append, HR.out, List.take_add_one, Hx.out]
          simp only [Option.toList, List.map_append, List.map_cons, List.map_nil]
          rfl)
        go_wp2_with fail
        go_roundw
        case rel => exact ⟨nL + 1, _, by omega, by go_num, HR2, Lib.hid HGo.out.1, Lib.hid HGo.out.2⟩
        case measure => simp [intOf]; omega
    · obtain rfl : j = n := by omega
      have q1 : decide ((j : Int) < (j : Int)) = false := by rw [decide_eq_false_iff_not]; omega
      have q2 : decide (j < j) = false := by rw [decide_eq_false_iff_not]; omega
      obtain ⟨hs, hL⟩ := HP.out.done (by rw [hRl]; exact HDn.out)
      have HRf : Hid (R'.map Hd.vs = R.map Hd.vs) := Lib.hid (by rw [HR.out, List.take_of_length_le (by rw [Hlen.out]; exact Nat.le_refl _)])
      have HL := Lib.hid hL
      clear hL hRl
      go_wp2_with fail
      go_ret
      exact ⟨⟨y, hs, R', rfl, HL.out, HRf.out⟩, Hb.out⟩
end Go.Proofs.YtbelnaiekbfoiaaGreatDoor.ly
