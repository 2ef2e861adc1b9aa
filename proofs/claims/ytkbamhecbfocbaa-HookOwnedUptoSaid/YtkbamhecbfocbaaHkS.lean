/- hook.sorted's parts: the order, Clone, Clip, and the sort of the six services. Conditions beside each. -/
import Derived.Test.YtkbamhecbfocbaaHkC
import Derived.Test.YtkbamhecbfocbaaSrt
namespace Go.Proofs.Ytkbamhecbfocbaa.hk
open Go.RowKit Go.Sort Go.Lib

abbrev HkE := ByteArray × (Option Addr × Nat × Nat)
def encHk (x : HkE) : List Value := [.string x.1, .slice x.2.1 x.2.2.1 x.2.2.2]
def cfHk (x y : HkE) : Int := Lib.compareBytes x.1.data.toList y.1.data.toList
set_option maxHeartbeats 1000000 in
theorem order_any (x y : HkE) (W : World) : Calls Try.prog 17 #[.agg #[.string x.1, .slice x.2.1 x.2.2.1 x.2.2.2], .agg #[.string y.1, .slice y.2.1 y.2.2.1 y.2.2.2]] W fun e w' => e = .returned (.int .i64 (cfHk x y)) ∧ ∃ q os', w' = grow (W.drewN q) os' := by
  have hcon := fun W' => Try.strings_Compare x.1 y.1 W'
  unfold cfHk
  generalize Lib.compareBytes x.1.data.toList y.1.data.toList = r at hcon ⊢
  go_enter Try.func17, Try.ntmps17
  go_wp2_with (go_at_call 18; refine (hcon _).mono ?_; rintro e w' ⟨rfl, rfl⟩)
  go_ret
  exact ⟨rfl, 0, _, by rw [alloc_eq_grow, alloc_eq_grow, grow_grow]; rfl⟩
theorem order_lays (blk off size : Nat) (w : World) : CmpLays Try.prog 17 #[] encHk 2 cfHk blk off size w := fun _ _ _ _ x y => order_any x y _
theorem len_any (n : Nat) (W : World) (h : n ≤ 12) : Calls Try.prog 23 #[.int .u64 n] W fun e w' => (∃ l : Int, e = .returned (.int .i64 l)) ∧ w' = W :=
  (Try.bits_Len n W (by omega) (by omega)).mono fun _ _ ⟨he, hw⟩ => ⟨⟨_, he⟩, hw⟩

theorem sort_any (blk cap : Nat) (d : Array HkE) (w : World) (hH : HoldsK encHk 2 w blk 0 d) (hblk : blk < w.heap.size) (h12 : d.size ≤ 12) :
    Calls Try.prog 16 #[.slice (some ⟨blk, 0, none⟩) d.size cap, .func (.func 17) #[] #[]] w fun e w' => e = .returned (.tuple #[]) ∧ ∃ n os, w' = sortWorldK encHk 2 w blk 0 n (Sort.insertionSort (ltOf cfHk) d 0 d.size) os :=
  AnyQ.slices_SortFunc_small Try.sortHook 2 Try.isAgg29 Try.sizeOf29 encHk (fun _ => rfl) (fun x v hv => by simp [encHk] at hv; rcases hv with rfl | rfl <;> rfl) cfHk 17 #[] blk 0 cap d w
    (enters_of Try.func17 (by kernel_rfl) rfl) (order_lays blk 0 d.size w) hH hblk h12 len_any

def d0 (u l : Nat) : Array HkE := #[(nNet, (some ⟨u, 0, none⟩, 2, 2)), (nPeers, (some ⟨u + 1, 0, none⟩, 1, 1)), (nAdmin, (some ⟨u + 1 + 1, 0, none⟩, 2, 2)), (nClock, (none, 0, 0)), (nLog, (some ⟨l, 0, none⟩, 1, 1)), (nStore, (some ⟨l + 1, 0, none⟩, 1, 1))]
def d1 (u l : Nat) : Array HkE := #[(nAdmin, (some ⟨u + 1 + 1, 0, none⟩, 2, 2)), (nClock, (none, 0, 0)), (nLog, (some ⟨l, 0, none⟩, 1, 1)), (nNet, (some ⟨u, 0, none⟩, 2, 2)), (nPeers, (some ⟨u + 1, 0, none⟩, 1, 1)), (nStore, (some ⟨l + 1, 0, none⟩, 1, 1))]
set_option maxRecDepth 100000 in
theorem sorted_d (u l : Nat) : Sort.insertionSort (ltOf cfHk) (d0 u l) 0 6 = d1 u l := by kernel_rfl
def upX (u : Nat) : List Value := [.string nNet, sl u 2, .string nPeers, sl (u + 1) 1, .string nAdmin, sl (u + 1 + 1) 2]
def loX (l : Nat) : List Value := [.string nClock, .slice none 0 0, .string nLog, sl l 1, .string nStore, sl (l + 1) 1]
theorem flat_d0 (u l : Nat) : flatK encHk 2 (d0 u l) = (upX u ++ loX l).toArray := by kernel_rfl

theorem clip_hook (p : Option Addr) (n c : Nat) (hn : n ≤ c) (w : World) : Calls Try.prog 14 #[.slice p n c] w fun e w' => e = .returned (.slice p n n) ∧ w = w' := by
  cases p with
  | none =>
    go_enter Try.func14, Try.ntmps14
    go_wp2_with fail
    go_ret
    exact ⟨rfl, rfl⟩
  | some a =>
    go_enter Try.func14, Try.ntmps14
    go_wp2_with fail
    go_ret
    exact ⟨rfl, rfl⟩
theorem clip_str (p : Option Addr) (n c : Nat) (hn : n ≤ c) (w : World) : Calls Try.prog 19 #[.slice p n c] w fun e w' => e = .returned (.slice p n n) ∧ w = w' := by
  cases p with
  | none =>
    go_enter Try.func19, Try.ntmps19
    go_wp2_with fail
    go_ret
    exact ⟨rfl, rfl⟩
  | some a =>
    go_enter Try.func19, Try.ntmps19
    go_wp2_with fail
    go_ret
    exact ⟨rfl, rfl⟩
end Go.Proofs.Ytkbamhecbfocbaa.hk
