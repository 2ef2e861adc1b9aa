/- Chapter 5's sixteen definitions in plain words: taken in one by one they are what stands. No program in sight; no conditions. -/
import Derived.Test.YtpfhhaonfbfheaaGreatDoorKyA
import Derived.Test.YtpfhhaonfbfheaaGreatDoorVaA
import Derived.Test.YtpfhhaonfbfheaaGreatDoorGlW
namespace Go.Proofs.YtpfhhaonfbfheaaGreatDoor.ky
open gl va ls

noncomputable def dfltL (x : Ky) : Bool := decide ((parse wordL x.kind x.dflt).2 = 0) && within wordL (parse wordL x.kind x.dflt).1 x.least x.most
noncomputable def addE (S : List Ky) (x : Ky) : Int :=
  if formL x = false then 50 else if dfltL x = false then 53 else if (findK S x.name).isSome then 51 else if (lettK S x.letter).isSome then 52 else if S.length = 64 then 54 else 0
noncomputable def addK (S : List Ky) (x : Ky) : List Ky := if addE S x = 0 then insK S x else S
def logK : List Ky := [⟨[108, 111, 103, 46, 102, 105, 108, 101], 5, [36, 123, 115, 116, 111, 114, 101, 46, 100, 105, 114, 125, 47, 108, 111, 103], 0, 0, []⟩, ⟨[108, 111, 103, 46, 107, 101, 101, 112], 4, [55, 100], 1, 2592000, []⟩, ⟨[108, 111, 103, 46, 108, 101, 118, 101, 108], 2, [50], 0, 5, [118]⟩]
def netK : List Ky := [⟨[110, 101, 116, 46, 104, 111, 115, 116], 5, [108, 111, 99, 97, 108, 104, 111, 115, 116], 0, 0, []⟩, ⟨[110, 101, 116, 46, 112, 101, 101, 114, 115], 6, [], 0, 16, []⟩, ⟨[110, 101, 116, 46, 112, 111, 114, 116], 2, [56, 48, 56, 48], 1, 65535, [112]⟩, ⟨[110, 101, 116, 46, 116, 105, 109, 101, 111, 117, 116], 4, [51, 48, 115], 1, 3600, []⟩, ⟨[110, 101, 116, 46, 117, 114, 108], 5, [104, 116, 116, 112, 58, 47, 47, 36, 123, 110, 101, 116, 46, 104, 111, 115, 116, 125, 58, 36, 123, 110, 101, 116, 46, 112, 111, 114, 116, 125], 0, 0, []⟩]
def storeK : List Ky := [⟨[115, 116, 111, 114, 101, 46, 98, 108, 111, 99, 107, 115], 2, [54, 52], 8, 4096, [98]⟩, ⟨[115, 116, 111, 114, 101, 46, 99, 97, 99, 104, 101], 3, [52, 109], 0, 1073741824, [99]⟩, ⟨[115, 116, 111, 114, 101, 46, 100, 105, 114], 5, [47, 118, 97, 114, 47, 116, 105, 110, 100, 101, 114], 0, 0, [100]⟩, ⟨[115, 116, 111, 114, 101, 46, 112, 97, 103, 101], 3, [52, 107], 512, 65536, []⟩]
def bootK : List Ky := [⟨[98, 111, 111, 116, 46, 100, 114, 121], 1, [102, 97, 108, 115, 101], 0, 0, [110]⟩, ⟨[98, 111, 111, 116, 46, 108, 105, 109, 105, 116], 2, [48], 0, 1024, []⟩, ⟨[98, 111, 111, 116, 46, 115, 101, 114, 118, 105, 99, 101, 115], 6, [108, 111, 103, 44, 110, 101, 116], 0, 16, [115]⟩, ⟨[98, 111, 111, 116, 46, 119, 111, 114, 107, 101, 114, 115], 2, [48], 0, 64, [119]⟩]
def stdK : List Ky := bootK ++ (logK ++ (netK ++ storeK))
noncomputable def addAll : List Ky → List Ky → List Ky
  | S, [] => S
  | S, x :: r => addAll (addK S x) r
theorem addAll_append : ∀ (l m S : List Ky), addAll S (l ++ m) = addAll (addAll S l) m
  | [], _, _ => rfl
  | x :: r, m, S => by simp only [List.cons_append, addAll, addAll_append r m]
theorem std_all : addAll [] (logK ++ (netK ++ (storeK ++ bootK))) = stdK := by kernel_rfl
theorem std_ok : ∀ x ∈ stdK, KyOk x := by unfold KyOk; decide +kernel
theorem std_asc : AscK stdK := by unfold AscK; decide +kernel
end Go.Proofs.YtpfhhaonfbfheaaGreatDoor.ky
