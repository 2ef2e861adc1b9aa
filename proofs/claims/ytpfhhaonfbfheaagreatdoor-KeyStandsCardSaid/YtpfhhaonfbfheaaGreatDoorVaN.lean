/- value.Print returns the plain function. Conditions: the listed variables hold what the program's text lays; the value's words lie in memory; it is no greater than 2147483647 bytes and words. -/
import Derived.Test.YtpfhhaonfbfheaaGreatDoorVaM
namespace Go.Proofs.YtpfhhaonfbfheaaGreatDoor.va
open Go.ChangeShapes Go.WideShapes Go.ChangeAt Go.RowKit gl

/-- What Print gives. -/
def PrintOut (isW : List UInt8 → Bool) (v : Val) (e : Ending) : Prop := e = .returned (.tuple #[.string (B (print isW v).1), .int .i64 (print isW v).2])
theorem print_t {v : Val} (h : right wordL v = true) : print wordL v = (prints v, 0) := by unfold print; rw [h]; rfl
theorem print_f {v : Val} (h : right wordL v = false) : print wordL v = ([], 1) := by unfold print; rw [h]; rfl

end Go.Proofs.YtpfhhaonfbfheaaGreatDoor.va
