/- Contracts of small functions on numbers: ranges, values, two bytes, number data. -/
import Derived.Test.YtifhjhgccknndaaDoorProg
import Derived.Test.YtifhjhgccknndaaDoorBase
namespace Go.Proofs.YtifhjhgccknndaaDoor
open Go.RowKit
set_option maxHeartbeats 400000
set_option linter.unusedSimpArgs false
set_option linter.unusedVariables false

theorem spec_l1In_any (a b c : Int) (w : World) :
    Calls Tryd.prog 61 #[.int .i64 a, .int .i64 b, .int .i64 c] w fun e w' => e = .returned (.bool (inR a b c)) ∧ w = w' := by
  go_enter Tryd.func61, Tryd.ntmps61
  go_wp2
  all_goals (go_ret; refine ⟨?_, rfl⟩; first | (simp [inR, *]; done) | (simp [inR, *]; omega))

theorem spec_nuValue_any (a : Int) (w : World) :
    Calls Tryd.prog 47 #[.int .i64 a] w fun e w' => e = .returned (.bool (inR a 0 1000000000)) ∧ w = w' := by
  go_enter Tryd.func47, Tryd.ntmps47
  go_wp2_with (go_at_call 61; refine (spec_l1In_any _ _ _ _).mono ?_; rintro e w' ⟨rfl, rfl⟩)
  go_ret
  exact ⟨rfl, rfl⟩

theorem impl_isValue_any (a : Int) (w : World) :
    Calls Tryd.prog 28 #[.int .i64 a] w fun e w' => e = .returned (.bool (inR a 0 1000000000)) ∧ w = w' := by
  go_enter Tryd.func28, Tryd.ntmps28
  go_wp2
  all_goals (go_ret; refine ⟨?_, rfl⟩; first | (simp [inR, *]; done) | (simp [inR, *]; omega))

theorem conv2 (w : World) (x y : Int) : (convert 79 9 (.slice (some ⟨w.heap.size, 0, none⟩) 2 2)).run Tryd.prog (w.alloc (.cells #[.int .u8 x, .int .u8 y] 5)) =
    .ok (.string (strOfNums [x, y])) (w.alloc (.cells #[.int .u8 x, .int .u8 y] 5)) :=
  run_convert_bytes_arg (P := Tryd.prog) _ 79 5 Tryd.underlying79 Tryd.underlying5 _ 0 2 2 [x, y] rfl (fun i hi => by
    match i, hi with
    | 0, _ => simp
    | 1, _ => simp) 9 Tryd.underlying9

theorem spec_tvWord_any (a : Int) (w : World) (h : 0 ≤ a) (h2 : a < 65536) :
    Calls Tryd.prog 63 #[.int .i64 a] w fun e w' => e = .returned (.string (strOfNums [a % 256, a / 256])) ∧ Ext w w' := by
  have hcv := conv2 w
  go_enter Tryd.func63, Tryd.ntmps63
  go_wp2
  go_ret
  exact ⟨rfl, (Ext.refl _).alloc _⟩

theorem impl_littleBytes_any (a : Int) (w : World) (h : 0 ≤ a) (h2 : a < 4294967296) :
    Calls Tryd.prog 56 #[.int .i64 a] w fun e w' => e = .returned (.string (strOfNums [a % 256, a / 256 % 256])) ∧ Ext w w' := by
  have hcv := conv2 w
  go_enter Tryd.func56, Tryd.ntmps56
  go_wp2
  go_ret
  exact ⟨rfl, (Ext.refl _).alloc _⟩

/-- The four bytes of a number, the lowest first. -/
def numBytes (a : Int) : ByteArray := strOfNums [a % 256, a / 256 % 256, a / 65536 % 256, a / 16777216]
theorem strOfNums_add (xs ys : List Int) : strOfNums xs ++ strOfNums ys = strOfNums (xs ++ ys) := by
  apply ByteArray.ext
  simp [strOfNums]

theorem spec_enData_any (a : Int) (w : World) (h : 0 ≤ a) (h2 : a < 4294967296) :
    Calls Tryd.prog 54 #[.int .i64 a] w fun e w' => e = .returned (.string (numBytes a)) ∧ Ext w w' := by
  go_enter Tryd.func54, Tryd.ntmps54
  go_wp2_with (go_at_call 63; refine (spec_tvWord_any _ _ (by omega) (by omega)).mono ?_; rintro e w' ⟨rfl, hb⟩)
  go_ret
  refine ⟨?_, Ext.trans (by assumption) (by assumption)⟩
  show Ending.returned (Value.string (strOfNums _ ++ strOfNums _)) = _
  rw [strOfNums_add, numBytes, show a % 65536 / 256 = a / 256 % 256 by omega, show a / 65536 / 256 = a / 16777216 by omega]
  rfl

theorem impl_numberData_any (a : Int) (w : World) (h : 0 ≤ a) (h2 : a < 4294967296) :
    Calls Tryd.prog 35 #[.int .i64 a] w fun e w' => e = .returned (.string (numBytes a)) ∧ Ext w w' := by
  go_enter Tryd.func35, Tryd.ntmps35
  go_wp2_with (go_at_call 56; refine (impl_littleBytes_any _ _ (by omega) (by omega)).mono ?_; rintro e w' ⟨rfl, hb⟩)
  go_ret
  refine ⟨?_, Ext.trans (by assumption) (by assumption)⟩
  show Ending.returned (Value.string (strOfNums _ ++ strOfNums _)) = _
  rw [strOfNums_add, numBytes, show a / 65536 / 256 % 256 = a / 16777216 by omega]
  rfl

def numDataS (a : Int) : ByteArray := if inR a 0 1000000000 then numBytes a else ⟨#[]⟩
end Go.Proofs.YtifhjhgccknndaaDoor
