/- Contracts of small functions on numbers: ranges, values, two bytes, number data. -/
import Derived.Test.YtifhjhgccknndaaProg
import Derived.Test.YtifhjhgccknndaaBase
namespace Go.Proofs.Ytifhjhgccknndaa
open Go.RowKit
set_option maxHeartbeats 400000
set_option linter.unusedSimpArgs false
set_option linter.unusedVariables false

theorem spec_l1In_any (a b c : Int) (w : World) :
    Calls Try.prog 75 #[.int .i64 a, .int .i64 b, .int .i64 c] w fun e w' => e = .returned (.bool (inR a b c)) ∧ w = w' := by
  go_enter Try.func75, Try.ntmps75
  go_wp2
  all_goals (go_ret; refine ⟨?_, rfl⟩; first | (simp [inR, *]; done) | (simp [inR, *]; omega))

theorem impl_isValue_any (a : Int) (w : World) :
    Calls Try.prog 85 #[.int .i64 a] w fun e w' => e = .returned (.bool (inR a 0 1000000000)) ∧ w = w' := by
  go_enter Try.func85, Try.ntmps85
  go_wp2
  all_goals (go_ret; refine ⟨?_, rfl⟩; first | (simp [inR, *]; done) | (simp [inR, *]; omega))

theorem conv2 (w : World) (x y : Int) : (convert 79 9 (.slice (some ⟨w.heap.size, 0, none⟩) 2 2)).run Try.prog (w.alloc (.cells #[.int .u8 x, .int .u8 y] 5)) =
    .ok (.string (strOfNums [x, y])) (w.alloc (.cells #[.int .u8 x, .int .u8 y] 5)) :=
  run_convert_bytes_arg (P := Try.prog) _ 79 5 Try.underlying79 Try.underlying5 _ 0 2 2 [x, y] rfl (fun i hi => by
    match i, hi with
    | 0, _ => simp
    | 1, _ => simp) 9 Try.underlying9

theorem spec_tvWord_any (a : Int) (w : World) (h : 0 ≤ a) (h2 : a < 65536) :
    Calls Try.prog 92 #[.int .i64 a] w fun e w' => e = .returned (.string (strOfNums [a % 256, a / 256])) ∧ Ext w w' := by
  have hcv := conv2 w
  go_enter Try.func92, Try.ntmps92
  go_wp2
  go_ret
  exact ⟨rfl, (Ext.refl _).alloc _⟩

theorem impl_littleBytes_any (a : Int) (w : World) (h : 0 ≤ a) (h2 : a < 4294967296) :
    Calls Try.prog 91 #[.int .i64 a] w fun e w' => e = .returned (.string (strOfNums [a % 256, a / 256 % 256])) ∧ Ext w w' := by
  have hcv := conv2 w
  go_enter Try.func91, Try.ntmps91
  go_wp2
  go_ret
  exact ⟨rfl, (Ext.refl _).alloc _⟩

/-- The four bytes of a number, the lowest first. -/
def numBytes (a : Int) : ByteArray := strOfNums [a % 256, a / 256 % 256, a / 65536 % 256, a / 16777216]
theorem strOfNums_add (xs ys : List Int) : strOfNums xs ++ strOfNums ys = strOfNums (xs ++ ys) := by
  apply ByteArray.ext
  simp [strOfNums]

theorem spec_enData_any (a : Int) (w : World) (h : 0 ≤ a) (h2 : a < 4294967296) :
    Calls Try.prog 84 #[.int .i64 a] w fun e w' => e = .returned (.string (numBytes a)) ∧ Ext w w' := by
  go_enter Try.func84, Try.ntmps84
  go_wp2_with (go_at_call 92; refine (spec_tvWord_any _ _ (by omega) (by omega)).mono ?_; rintro e w' ⟨rfl, hb⟩)
  go_ret
  refine ⟨?_, Ext.trans (by assumption) (by assumption)⟩
  show Ending.returned (Value.string (strOfNums _ ++ strOfNums _)) = _
  rw [strOfNums_add, numBytes, show a % 65536 / 256 = a / 256 % 256 by omega, show a / 65536 / 256 = a / 16777216 by omega]
  rfl

theorem impl_numberData_any (a : Int) (w : World) (h : 0 ≤ a) (h2 : a < 4294967296) :
    Calls Try.prog 86 #[.int .i64 a] w fun e w' => e = .returned (.string (numBytes a)) ∧ Ext w w' := by
  go_enter Try.func86, Try.ntmps86
  go_wp2_with (go_at_call 91; refine (impl_littleBytes_any _ _ (by omega) (by omega)).mono ?_; rintro e w' ⟨rfl, hb⟩)
  go_ret
  refine ⟨?_, Ext.trans (by assumption) (by assumption)⟩
  show Ending.returned (Value.string (strOfNums _ ++ strOfNums _)) = _
  rw [strOfNums_add, numBytes, show a / 65536 / 256 % 256 = a / 16777216 by omega]
  rfl

def numDataS (a : Int) : ByteArray := if inR a 0 1000000000 then numBytes a else ⟨#[]⟩
end Go.Proofs.Ytifhjhgccknndaa
