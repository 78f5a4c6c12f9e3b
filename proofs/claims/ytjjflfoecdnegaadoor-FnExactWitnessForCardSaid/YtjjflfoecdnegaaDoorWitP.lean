/- Least values of fields: the plain side. -/
import Derived.Test.YtjjflfoecdnegaaDoorCond
namespace Go.Proofs.YtjjflfoecdnegaaDoor
set_option maxRecDepth 20000
set_option linter.unusedVariables false
theorem noN_succ (p : Nat → Bool) (n : Nat) : noN p (n + 1) = (noN p n && !p n) := by
  rw [Bool.eq_iff_iff, Bool.and_eq_true, noN_iff, noN_iff, Bool.not_eq_true']
  constructor
  · intro h
    exact ⟨fun k hk => h k (by omega), h n (by omega)⟩
  · rintro ⟨h1, h2⟩ k hk
    rcases Nat.lt_or_eq_of_le (Nat.le_of_lt_succ hk) with h | h
    · exact h1 k h
    · rw [h]; exact h2
theorem noN_zero (p : Nat → Bool) : noN p 0 = true := rfl
/-- A filter takes a value of a field; a value fits a filter's own field. -/
def hitB (field v : Int) (y : Flt) : Bool := (y.field == field) && (bits .and .i64 v y.mask == y.value)
def fitB (field v : Int) (x : Flt) : Bool := (x.field != field) || (bits .and .i64 v x.mask == x.value)
def fltI (fs : List Flt) (i : Nat) : Flt := match fs[i]? with
  | some x => x
  | none => ⟨0, 0, 0, 0, 0⟩
theorem fltI_is (fs : List Flt) (i : Nat) (h : i < fs.length) : fltI fs i = fs[i] := by simp [fltI, h]
def hitP (fs : List Flt) (field v : Int) (j : Nat) : Bool := hitB field v (fltI fs j)
/-- The flag behind k of the filters ahead. -/
def flagB (fs : List Flt) (i : Nat) (field v : Int) (k : Nat) : Bool := fitB field v (fltI fs i) && noN (hitP fs field v) k
theorem flagB_zero (fs : List Flt) (i : Nat) (field v : Int) : flagB fs i field v 0 = fitB field v (fltI fs i) := by rw [flagB, noN_zero, Bool.and_true]
theorem flagB_succ (fs : List Flt) (i : Nat) (field v : Int) (k : Nat) : flagB fs i field v (k + 1) = (flagB fs i field v k && !hitP fs field v k) := by
  rw [flagB, noN_succ, flagB, Bool.and_assoc]
def fineP (fs : List Flt) (i : Nat) (field : Int) (v : Nat) : Bool := flagB fs i field v i
/-- The least value of a field for which the filter is the first one, or -1. -/
def leastV (fs : List Flt) (i : Nat) (field : Int) : Int := fndN (fineP fs i field) 0 65536
theorem leastV_bd (fs : List Flt) (i : Nat) (field : Int) : leastV fs i field = -1 ∨ ∃ u : Nat, leastV fs i field = u ∧ u < 65536 := by
  rcases fndN_bd (fineP fs i field) 65536 0 with h | ⟨h1, h2⟩
  · exact .inl h
  · obtain ⟨u, hu⟩ := Int.eq_ofNat_of_zero_le (show 0 ≤ fndN (fineP fs i field) 0 65536 by omega)
    exact .inr ⟨u, hu, by omega⟩
/-- There is a packet for which the filter is the first one. -/
def witOk (fs : List Flt) (i : Nat) : Bool := decide (0 ≤ leastV fs i 0) && decide (0 ≤ leastV fs i 1) && decide (0 ≤ leastV fs i 2) && decide (0 ≤ leastV fs i 3)
def idleP (fs : List Flt) (i : Nat) : Bool := !witOk fs i
end Go.Proofs.YtjjflfoecdnegaaDoor
