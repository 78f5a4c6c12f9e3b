/- Contracts of small functions on numbers: ranges, values, two bytes, number data. -/
import Derived.Test.YtapmppnclgjpdaaProg
import Derived.Test.YtapmppnclgjpdaaBase
namespace Go.Proofs.Ytapmppnclgjpdaa
open Go.RowKit
set_option maxHeartbeats 400000
set_option linter.unusedSimpArgs false
set_option linter.unusedVariables false

theorem spec_l1In_any (a b c : Int) (w : World) :
    Calls Try.prog 33 #[.int .i64 a, .int .i64 b, .int .i64 c] w fun e w' => e = .returned (.bool (inR a b c)) ∧ w = w' := by
  go_enter Try.func33, Try.ntmps33
  go_wp2
  all_goals (go_ret; refine ⟨?_, rfl⟩; first | (simp [inR, *]; done) | (simp [inR, *]; omega))

theorem spec_nuValue_any (a : Int) (w : World) :
    Calls Try.prog 23 #[.int .i64 a] w fun e w' => e = .returned (.bool (inR a 0 1000000000)) ∧ w = w' := by
  go_enter Try.func23, Try.ntmps23
  go_wp2_with (go_at_call 33; refine (spec_l1In_any _ _ _ _).mono ?_; rintro e w' ⟨rfl, rfl⟩)
  go_ret
  exact ⟨rfl, rfl⟩

theorem impl_isValue_any (a : Int) (w : World) :
    Calls Try.prog 25 #[.int .i64 a] w fun e w' => e = .returned (.bool (inR a 0 1000000000)) ∧ w = w' := by
  go_enter Try.func25, Try.ntmps25
  go_wp2
  all_goals (go_ret; refine ⟨?_, rfl⟩; first | (simp [inR, *]; done) | (simp [inR, *]; omega))

theorem conv2 (w : World) (x y : Int) : (convert 52 9 (.slice (some ⟨w.heap.size, 0, none⟩) 2 2)).run Try.prog (w.alloc (.cells #[.int .u8 x, .int .u8 y] 5)) =
    .ok (.string (strOfNums [x, y])) (w.alloc (.cells #[.int .u8 x, .int .u8 y] 5)) :=
  run_convert_bytes_arg (P := Try.prog) _ 52 5 Try.underlying52 Try.underlying5 _ 0 2 2 [x, y] rfl (fun i hi => by
    match i, hi with
    | 0, _ => simp
    | 1, _ => simp) 9 Try.underlying9

theorem spec_tvWord_any (a : Int) (w : World) (h : 0 ≤ a) (h2 : a < 65536) :
    Calls Try.prog 34 #[.int .i64 a] w fun e w' => e = .returned (.string (strOfNums [a % 256, a / 256])) ∧ Ext w w' := by
  have hcv := conv2 w
  go_enter Try.func34, Try.ntmps34
  go_wp2
  go_ret
  exact ⟨rfl, (Ext.refl _).alloc _⟩

theorem impl_littleBytes_any (a : Int) (w : World) (h : 0 ≤ a) (h2 : a < 4294967296) :
    Calls Try.prog 35 #[.int .i64 a] w fun e w' => e = .returned (.string (strOfNums [a % 256, a / 256 % 256])) ∧ Ext w w' := by
  have hcv := conv2 w
  go_enter Try.func35, Try.ntmps35
  go_wp2
  go_ret
  exact ⟨rfl, (Ext.refl _).alloc _⟩

/-- The four bytes of a number, the lowest first. -/
def numBytes (a : Int) : ByteArray := strOfNums [a % 256, a / 256 % 256, a / 65536 % 256, a / 16777216]
theorem strOfNums_add (xs ys : List Int) : strOfNums xs ++ strOfNums ys = strOfNums (xs ++ ys) := by
  apply ByteArray.ext
  simp [strOfNums]

theorem spec_enData_any (a : Int) (w : World) (h : 0 ≤ a) (h2 : a < 4294967296) :
    Calls Try.prog 24 #[.int .i64 a] w fun e w' => e = .returned (.string (numBytes a)) ∧ Ext w w' := by
  go_enter Try.func24, Try.ntmps24
  go_wp2_with (go_at_call 34; refine (spec_tvWord_any _ _ (by omega) (by omega)).mono ?_; rintro e w' ⟨rfl, hb⟩)
  go_ret
  refine ⟨?_, Ext.trans (by assumption) (by assumption)⟩
  show Ending.returned (Value.string (strOfNums _ ++ strOfNums _)) = _
  rw [strOfNums_add, numBytes, show a % 65536 / 256 = a / 256 % 256 by omega, show a / 65536 / 256 = a / 16777216 by omega]
  rfl

theorem impl_numberData_any (a : Int) (w : World) (h : 0 ≤ a) (h2 : a < 4294967296) :
    Calls Try.prog 26 #[.int .i64 a] w fun e w' => e = .returned (.string (numBytes a)) ∧ Ext w w' := by
  go_enter Try.func26, Try.ntmps26
  go_wp2_with (go_at_call 35; refine (impl_littleBytes_any _ _ (by omega) (by omega)).mono ?_; rintro e w' ⟨rfl, hb⟩)
  go_ret
  refine ⟨?_, Ext.trans (by assumption) (by assumption)⟩
  show Ending.returned (Value.string (strOfNums _ ++ strOfNums _)) = _
  rw [strOfNums_add, numBytes, show a / 65536 / 256 % 256 = a / 16777216 by omega]
  rfl

def numDataS (a : Int) : ByteArray := if inR a 0 1000000000 then numBytes a else ⟨#[]⟩
theorem spec_NumberData_any (a : Int) (w : World) :
    Calls Try.prog 9 #[.int .i64 a] w fun e w' => e = .returned (.tuple #[.string (numDataS a), .bool (inR a 0 1000000000)]) ∧ Ext w w' := by
  by_cases hr : inR a 0 1000000000 = true
  · have hr' := inR_iff.1 hr
    go_enter Try.func9, Try.ntmps9
    go_wp2_with (first | (go_at_call 23; refine (spec_nuValue_any _ _).mono ?_; rintro e w' ⟨rfl, rfl⟩) | (go_at_call 24; refine (spec_enData_any _ _ (by omega) (by omega)).mono ?_; rintro e w' ⟨rfl, hb⟩))
    go_ret2
    exact ⟨by simp [numDataS, hr], by assumption⟩
  · have hr' : inR a 0 1000000000 = false := by simpa using hr
    go_enter Try.func9, Try.ntmps9
    go_wp2_with (go_at_call 23; refine (spec_nuValue_any _ _).mono ?_; rintro e w' ⟨rfl, rfl⟩)
    go_ret2
    exact ⟨by simp [numDataS, hr'], Ext.refl _⟩

theorem impl_NumberData_any (a : Int) (w : World) :
    Calls Try.prog 10 #[.int .i64 a] w fun e w' => e = .returned (.tuple #[.string (numDataS a), .bool (inR a 0 1000000000)]) ∧ Ext w w' := by
  by_cases hr : inR a 0 1000000000 = true
  · have hr' := inR_iff.1 hr
    go_enter Try.func10, Try.ntmps10
    go_wp2_with (first | (go_at_call 25; refine (impl_isValue_any _ _).mono ?_; rintro e w' ⟨rfl, rfl⟩) | (go_at_call 26; refine (impl_numberData_any _ _ (by omega) (by omega)).mono ?_; rintro e w' ⟨rfl, hb⟩))
    go_ret2
    exact ⟨by simp [numDataS, hr], by assumption⟩
  · have hr' : inR a 0 1000000000 = false := by simpa using hr
    go_enter Try.func10, Try.ntmps10
    go_wp2_with (go_at_call 25; refine (impl_isValue_any _ _).mono ?_; rintro e w' ⟨rfl, rfl⟩)
    go_ret2
    exact ⟨by simp [numDataS, hr'], Ext.refl _⟩

end Go.Proofs.Ytapmppnclgjpdaa
