/- Plain laws of tinderboxlaw03.CodecBack: what is laid down is taken up; of one byte less something is short. No program in sight; no conditions. -/
import Derived.Test.YtmijkaejdgmplaaDoorCoY
namespace Go.Proofs.YtmijkaejdgmplaaDoor.co

structure ItemD where
  text : Bool
  n : Int
  more : Int
  s : ByteArray
def ItemD.row (o : ItemD) : List UInt8 := if o.text then rowL (textB o.s).size ++ (textB o.s).data.toList else rowL (numV o.n).toNat
def laid (l : List ItemD) : List UInt8 := l.flatMap ItemD.row
theorem laid_cons (o : ItemD) (l : List ItemD) : laid (o :: l) = o.row ++ laid l := by simp [laid]
theorem laid_app (a b : List ItemD) : laid (a ++ b) = laid a ++ laid b := by unfold laid; exact List.flatMap_append
theorem laid_one (o : ItemD) : laid [o] = o.row := by simp [laid]
theorem row_pos (o : ItemD) : 0 < o.row.length := by
  unfold ItemD.row
  split
  · rw [List.length_append]; have := rowL_pos (textB o.s).size; omega
  · exact rowL_pos _
theorem numV_le (n : Int) : (numV n).toNat ≤ 4611686018427387904 := by have := numV_bd n; omega
theorem laid_ne {l : List ItemD} (h : l ≠ []) : 1 ≤ (laid l).length := by
  cases l with
  | nil => exact absurd rfl h
  | cons o r => rw [laid_cons, List.length_append]; have := row_pos o; omega
theorem row_len (o : ItemD) : o.row.length ≤ 9 + o.s.size := by
  unfold ItemD.row
  have h1 := textB_le o.s
  split
  · rw [List.length_append]
    have h2 := rowL_len (textB o.s).size (by omega)
    have h3 : (textB o.s).data.toList.length = (textB o.s).size := by simp
    omega
  · have := rowL_len (numV o.n).toNat (by have := numV_le o.n; omega)
    omega
def iw (l : List ItemD) : Nat := (l.map fun o => 100 + 2 * o.s.size).sum
theorem iw_cons (o : ItemD) (l : List ItemD) : iw (o :: l) = (100 + 2 * o.s.size) + iw l := by simp [iw]
theorem laid_len : ∀ l : List ItemD, (laid l).length ≤ iw l
  | [] => by simp [laid]
  | o :: l => by
    rw [laid_cons, List.length_append, iw_cons]
    have := row_len o
    have := laid_len l
    omega
/-- What the weighing says. -/
def weigh : List ItemD → Int → Int
  | [], n => n
  | o :: r, n => if n ≤ 2147483647 then weigh r (addV (addV n 100) (addV (o.s.size : Nat) (o.s.size : Nat))) else n
theorem weigh_iw : ∀ (l : List ItemD) (n : Nat), (∀ o ∈ l, o.s.size ≤ 9223372036854775807) → weigh l n ≤ 2147483647 → n + iw l ≤ 2147483647
  | [], n, _, h => by simp only [weigh] at h; simp only [iw, List.map_nil, List.sum_nil]; omega
  | o :: r, n, hs, h => by
    simp only [weigh] at h
    rw [iw_cons]
    split at h
    · by_cases h1 : addV (addV n 100) (addV (o.s.size : Nat) (o.s.size : Nat)) = ((n + 100 + 2 * o.s.size : Nat) : Int)
      · rw [h1] at h
        have := weigh_iw r _ (fun o ho => hs o (by simp [ho])) h
        omega
      · have hb : addV (addV n 100) (addV (o.s.size : Nat) (o.s.size : Nat)) = 2147483648 := by
          have b1 := addV_bd (n : Int) 100 (by omega) (by omega)
          unfold addV at h1 ⊢
          by_cases c1 : (o.s.size : Int) > 2147483647 - (o.s.size : Int)
          · simp only [if_pos c1]
            rw [if_pos]
            split <;> omega
          · simp only [if_neg c1] at h1 ⊢
            by_cases h2 : (100 : Int) > 2147483647 - (n : Int)
            · rw [if_pos h2, if_pos (by omega)]
            · rw [if_neg h2] at h1 ⊢
              by_cases h3 : (o.s.size : Int) + (o.s.size : Int) > 2147483647 - ((n : Int) + 100)
              · rw [if_pos h3]
              · rw [if_neg h3] at h1; omega
        rw [hb] at h
        cases r with
        | nil => simp only [weigh] at h; omega
        | cons o' r' =>
          simp only [weigh] at h
          rw [if_neg (by omega)] at h
          omega
    · omega

/-- A Writer takes them all. -/
theorem lay_item (l : List UInt8) (o : ItemD) (h : l.length + o.row.length ≤ 2147483647) :
    (if o.text then (⟨l, 2147483647, 0⟩ : Wst).text (textB o.s).data.toList else (⟨l, 2147483647, 0⟩ : Wst).num (numV o.n)) = ⟨l ++ o.row, 2147483647, 0⟩ := by
  have ht := textB_le o.s
  have hl : (textB o.s).data.toList.length = (textB o.s).size := by simp
  have hn := numV_bd o.n
  unfold ItemD.row at h ⊢
  by_cases hk : o.text = true
  · simp only [hk, if_true] at h ⊢
    unfold Wst.text
    rw [if_neg (by omega), hl]
    unfold Wst.lay
    rw [if_pos rfl, if_neg (by simp only; omega)]
  · rw [if_neg hk] at h ⊢
    rw [if_neg hk]
    unfold Wst.num
    rw [if_neg (by omega)]
    unfold Wst.lay
    rw [if_pos rfl, if_neg (by simp only; omega)]

/-- What a Reader makes of the next thing. -/
def mostV (o : ItemD) : Int := (textB o.s).size + pickV o.more 70000
def getsR (r : Rst) (o : ItemD) : Rst := if o.text then (r.text (mostV o)).2 else r.num.2
def getsT (r : Rst) (o : ItemD) : Prop := if o.text then (r.text (mostV o)).1 = (textB o.s).data.toList else (r.num.1 : Int) = numV o.n
theorem num_row (m : Nat) (t : List UInt8) (hm : m ≤ 4611686018427387904) : (⟨rowL m ++ t, 0⟩ : Rst).num = (m, ⟨t, 0⟩) := by
  have h := nxt_row 8 0 0 m t (by omega) (by omega) (by simpa using hm)
  unfold Rst.num
  simp only [if_true]
  rw [h]
  simp
theorem gets_ok (o : ItemD) (t : List UInt8) : getsT ⟨o.row ++ t, 0⟩ o ∧ getsR ⟨o.row ++ t, 0⟩ o = ⟨t, 0⟩ := by
  have ht := textB_le o.s
  have hl : (textB o.s).data.toList.length = (textB o.s).size := by simp
  have hn := numV_bd o.n
  have hp := pickV_bd o.more 70000 (by omega)
  unfold getsT getsR ItemD.row
  by_cases hk : o.text = true
  · simp only [hk, if_true]
    have e : (⟨rowL (textB o.s).size ++ (textB o.s).data.toList ++ t, 0⟩ : Rst).text (mostV o) = ((textB o.s).data.toList, ⟨t, 0⟩) := by
      unfold Rst.text
      rw [List.append_assoc, num_row _ _ (by omega)]
      simp only [if_true]
      rw [if_neg (by unfold mostV; omega), if_neg (by rw [List.length_append]; omega), ← hl, List.take_left, List.drop_left]
    rw [e]
    exact ⟨rfl, rfl⟩
  · rw [if_neg hk, if_neg hk, if_neg hk, num_row _ _ (numV_le o.n)]
    exact ⟨by omega, rfl⟩

/-- Of a byte less. -/
theorem nxt_short : ∀ (f i n : Nat) (l : List UInt8), (∀ b ∈ l, 128 ≤ b.toNat) → l.length < f → nxt f i n l = (0, 0, 32)
  | 0, _, _, _, _, h => by omega
  | _ + 1, _, _, [], _, _ => rfl
  | f + 1, i, n, b :: r, hb, h => by
    rw [nxt, if_pos (hb b (by simp))]
    exact nxt_short f _ _ r (fun c hc => hb c (by simp [hc])) (by simpa using h)
theorem row_high : ∀ (f m : Nat), m ≤ f → ∀ b ∈ (rowL m).dropLast, 128 ≤ b.toNat
  | 0, m, h, b, hb => by rw [rowL_small (by omega)] at hb; simp at hb
  | f + 1, m, h, b, hb => by
    by_cases hm : m < 128
    · rw [rowL_small hm] at hb; simp at hb
    · rw [rowL_great hm, List.dropLast_cons_of_ne_nil (by intro h0; have := rowL_pos (m / 128); rw [h0] at this; simp at this)] at hb
      rcases List.mem_cons.1 hb with rfl | hb
      · rw [UInt8.toNat_ofNat']; omega
      · exact row_high f (m / 128) (by omega) b hb
theorem num_short (m : Nat) (hm : m ≤ 4611686018427387904) : (⟨(rowL m).dropLast, 0⟩ : Rst).num = (0, ⟨(rowL m).dropLast, 32⟩) := by
  have h1 := rowL_len m (by omega)
  have h2 := rowL_pos m
  have h := nxt_short 9 0 0 (rowL m).dropLast (row_high m m (Nat.le_refl _)) (by rw [List.length_dropLast]; omega)
  unfold Rst.num
  simp only [if_true]
  rw [h]
  rfl
theorem gets_short (o : ItemD) : (getsR ⟨o.row.dropLast, 0⟩ o).err = 32 := by
  have ht := textB_le o.s
  have hl : (textB o.s).data.toList.length = (textB o.s).size := by simp
  have hp := pickV_bd o.more 70000 (by omega)
  unfold getsR ItemD.row
  by_cases hk : o.text = true
  · simp only [hk, if_true]
    by_cases h0 : (textB o.s).data.toList = []
    · rw [h0, List.append_nil]
      unfold Rst.text
      rw [num_short _ (by omega)]
      rfl
    · rw [List.dropLast_append_of_ne_nil h0]
      unfold Rst.text
      rw [num_row _ _ (by omega)]
      simp only [if_true]
      have : 0 < (textB o.s).data.toList.length := List.length_pos_iff.2 h0
      rw [if_neg (by unfold mostV; omega), if_pos (by rw [List.length_dropLast]; omega)]
  · rw [if_neg hk, if_neg hk, num_short _ (numV_le o.n)]
theorem gets_more (o o' : ItemD) (l : List ItemD) : getsR ⟨(laid (o :: o' :: l)).dropLast, 0⟩ o = ⟨(laid (o' :: l)).dropLast, 0⟩ := by
  have hne : laid (o' :: l) ≠ [] := by
    rw [laid_cons]
    intro h
    have := row_pos o'
    rw [(List.append_eq_nil_iff.1 h).1] at this
    simp at this
  rw [laid_cons, List.dropLast_append_of_ne_nil hne]
  exact (gets_ok o _).2
theorem getsR_rest (r : Rst) (o : ItemD) : (getsR r o).rest.length ≤ r.rest.length := by
  unfold getsR
  split
  · exact text_rest _ _
  · exact num_rest _
theorem mostV_bd (o : ItemD) : 0 ≤ mostV o ∧ mostV o ≤ 140000 := by
  have ht := textB_le o.s
  have hp := pickV_bd o.more 70000 (by omega)
  unfold mostV
  omega

/-- What the k-th Reader holds ahead of the i-th thing. -/
structure St (l : List ItemD) (x : List UInt8) (k i : Nat) (r : Rst) : Prop where
  zero : k = 0 → r = ⟨laid (l.drop i), 0⟩
  one : k = 1 → r = ⟨laid (l.drop i) ++ 120 :: x, 0⟩
  two : k = 2 → (i < l.length → r = ⟨(laid (l.drop i)).dropLast, 0⟩) ∧ (i = l.length → r.err = 32)
theorem St.step {l : List ItemD} {x : List UInt8} {k i : Nat} {r : Rst} (h : St l x k i r) {o : ItemD} (hi : l[i]? = some o) : St l x k (i + 1) (getsR r o) ∧ (k < 2 → getsT r o) := by
  have hd : l.drop i = o :: l.drop (i + 1) := drop_cons hi
  have hlt : i < l.length := (List.getElem?_eq_some_iff.1 hi).1
  refine ⟨⟨fun hk => ?_, fun hk => ?_, fun hk => ⟨fun hlt2 => ?_, fun he => ?_⟩⟩, fun hk => ?_⟩
  · rw [h.zero hk, hd, laid_cons]; exact (gets_ok o _).2
  · rw [h.one hk, hd, laid_cons, List.append_assoc]; exact (gets_ok o _).2
  · rw [(h.two hk).1 hlt, hd]
    have hd2 : l.drop (i + 1) = l[i + 1] :: l.drop (i + 1 + 1) := List.drop_eq_getElem_cons hlt2
    rw [hd2]
    exact gets_more o _ _
  · rw [(h.two hk).1 hlt, hd, List.drop_of_length_le (by omega), laid_one]
    exact gets_short o
  · rcases (show k = 0 ∨ k = 1 by omega) with hk | hk
    · rw [h.zero hk, hd, laid_cons]; exact (gets_ok o _).1
    · rw [h.one hk, hd, laid_cons, List.append_assoc]; exact (gets_ok o _).1
theorem St.end_ {l : List ItemD} {x : List UInt8} {k : Nat} {r : Rst} (h : St l x k l.length r) : (k = 0 → r.done = 0) ∧ (k = 1 → r.done = 33) ∧ (k = 2 → r.done = 32 ∧ r.left = 0) := by
  refine ⟨fun hk => ?_, fun hk => ?_, fun hk => ?_⟩
  · rw [h.zero hk, List.drop_of_length_le (Nat.le_refl _)]; rfl
  · rw [h.one hk, List.drop_of_length_le (Nat.le_refl _)]; rfl
  · have he := (h.two hk).2 rfl
    exact ⟨by rw [err_done (by rw [he]; decide), he], err_left (by rw [he]; decide)⟩
theorem St.end0 {l : List ItemD} {x : List UInt8} {k : Nat} {r : Rst} (h : St l x k l.length r) (hk : k < 2) : r.err = 0 := by
  rcases (show k = 0 ∨ k = 1 by omega) with hk | hk
  · rw [h.zero hk]
  · rw [h.one hk]
theorem St.rest {l : List ItemD} {x : List UInt8} {k i : Nat} {r : Rst} (h : St l x k i r) (hk : k < 3) (hi : i < l.length) (hl : (laid l).length + x.length + 1 ≤ 9223372036854775807) : r.rest.length ≤ 9223372036854775807 := by
  have e : (laid (l.take i)).length + (laid (l.drop i)).length = (laid l).length := by rw [← List.length_append, ← laid_app, List.take_append_drop]
  rcases (show k = 0 ∨ k = 1 ∨ k = 2 by omega) with hk | hk | hk
  · rw [h.zero hk]; simp only; omega
  · rw [h.one hk]; simp only [List.length_append, List.length_cons]; omega
  · rw [(h.two hk).1 hi]; simp only [List.length_dropLast]; omega
def TX (X x : ByteArray) (k : Nat) : ByteArray := if k = 0 then X else if k = 1 then X ++ ⟨#[120]⟩ ++ x else X.extract 0 (X.size - 1)
theorem St.start {l : List ItemD} {X x : ByteArray} (hX : X.data.toList = laid l) (k : Nat) (h2 : k = 2 → l ≠ []) : St l x.data.toList k 0 ⟨(TX X x k).data.toList, 0⟩ := by
  refine ⟨fun hk => ?_, fun hk => ?_, fun hk => ⟨fun _ => ?_, fun he => ?_⟩⟩
  · subst hk; unfold TX; rw [if_pos rfl, hX]; rfl
  · subst hk; unfold TX; rw [if_neg (by omega), if_pos rfl, ByteArray.data_append, ByteArray.data_append, Array.toList_append, Array.toList_append, hX]; simp
  · subst hk
    have hs : X.size = X.data.toList.length := by simp
    unfold TX
    rw [if_neg (by omega), if_neg (by omega), take_data, hs, ← List.dropLast_eq_take, hX]; rfl
  · exact absurd (List.eq_nil_of_length_eq_zero he.symm) (h2 hk)
end Go.Proofs.YtmijkaejdgmplaaDoor.co
