/- Contracts of small functions on numbers: ranges, values, two bytes, number data. -/
import Derived.Test.YtidahgoihgodnaaDoorProg
import Derived.Test.YtidahgoihgodnaaDoorBase
namespace Go.Proofs.YtidahgoihgodnaaDoor
open Go.RowKit
set_option maxRecDepth 20000
set_option maxHeartbeats 400000
set_option linter.unusedSimpArgs false
set_option linter.unusedVariables false

theorem spec_l1In_any (a b c : Int) (w : World) :
    Calls Tryd.prog 50 #[.int .i64 a, .int .i64 b, .int .i64 c] w fun e w' => e = .returned (.bool (inR a b c)) ∧ w = w' := by
  go_enter Tryd.func50, Tryd.ntmps50
  go_wp2
  all_goals (go_ret; refine ⟨?_, rfl⟩; first | (simp [inR, *]; done) | (simp [inR, *]; omega))

/-- The four bytes of a number, the lowest first. -/
def numBytes (a : Int) : ByteArray := strOfNums [a % 256, a / 256 % 256, a / 65536 % 256, a / 16777216]
theorem strOfNums_add (xs ys : List Int) : strOfNums xs ++ strOfNums ys = strOfNums (xs ++ ys) := by
  apply ByteArray.ext
  simp [strOfNums]

def numDataS (a : Int) : ByteArray := if inR a 0 1000000000 then numBytes a else ⟨#[]⟩
end Go.Proofs.YtidahgoihgodnaaDoor
