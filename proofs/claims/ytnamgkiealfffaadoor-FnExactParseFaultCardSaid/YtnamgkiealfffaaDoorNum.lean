/- Contracts of small functions on numbers: ranges, values, two bytes, number data. -/
import Derived.Test.YtnamgkiealfffaaDoorProg
import Derived.Test.YtnamgkiealfffaaDoorBase
namespace Go.Proofs.YtnamgkiealfffaaDoor
open Go.RowKit
set_option maxRecDepth 20000
set_option maxHeartbeats 400000
set_option linter.unusedSimpArgs false
set_option linter.unusedVariables false

theorem spec_l1In_any (a b c : Int) (w : World) :
    Calls Tryd.prog 22 #[.int .i64 a, .int .i64 b, .int .i64 c] w fun e w' => e = .returned (.bool (inR a b c)) ∧ w = w' := by
  go_enter Tryd.func22, Tryd.ntmps22
  go_wp2
  all_goals (go_ret; refine ⟨?_, rfl⟩; first | (simp [inR, *]; done) | (simp [inR, *]; omega))

theorem conv2 (w : World) (x y : Int) : (convert 66 9 (.slice (some ⟨w.heap.size, 0, none⟩) 2 2)).run Tryd.prog (w.alloc (.cells #[.int .u8 x, .int .u8 y] 5)) =
    .ok (.string (strOfNums [x, y])) (w.alloc (.cells #[.int .u8 x, .int .u8 y] 5)) :=
  run_convert_bytes_arg (P := Tryd.prog) _ 66 5 Tryd.underlying66 Tryd.underlying5 _ 0 2 2 [x, y] rfl (fun i hi => by
    match i, hi with
    | 0, _ => simp
    | 1, _ => simp) 9 Tryd.underlying9

/-- The four bytes of a number, the lowest first. -/
def numBytes (a : Int) : ByteArray := strOfNums [a % 256, a / 256 % 256, a / 65536 % 256, a / 16777216]
theorem strOfNums_add (xs ys : List Int) : strOfNums xs ++ strOfNums ys = strOfNums (xs ++ ys) := by
  apply ByteArray.ext
  simp [strOfNums]

def numDataS (a : Int) : ByteArray := if inR a 0 1000000000 then numBytes a else ⟨#[]⟩
end Go.Proofs.YtnamgkiealfffaaDoor
