/- Texts of numbers and the tests on a class and a filter: the plain side, no program. -/
import Derived.Test.YtnamgkiealfffaaDoorMem
import Derived.Test.YtnamgkiealfffaaDoorBits
import Derived.Lib.ItoaNum
import Derived.Lib.ItoaMem
namespace Go.Proofs.YtnamgkiealfffaaDoor
open Go.RowKit
set_option maxRecDepth 20000
set_option linter.unusedVariables false
set_option linter.unusedSimpArgs false
/-- n in decimal. -/
def dec (n : Int) : ByteArray := ⟨(Lib.decDigits n.toNat).toArray⟩
theorem itoa_dec {n : Int} (h : 0 ≤ n) : (⟨(Lib.itoa n).toArray⟩ : ByteArray) = dec n := by
  unfold dec Lib.itoa
  rw [if_neg (by omega)]
theorem digs_le : ∀ (k n : Nat), n < 10 ^ (k + 1) → (Lib.decDigits n).length ≤ k + 1
  | 0, n, h => by
    rw [Lib.decDigits, dif_pos (by simpa using h)]
    simp
  | k + 1, n, h => by
    by_cases h1 : n < 10
    · rw [Lib.decDigits, dif_pos h1]
      simp
    · rw [Lib.decDigits, dif_neg h1, List.length_append]
      have := digs_le k (n / 10) (by rw [Nat.pow_succ] at h; omega)
      simp
      omega
theorem dec_size {n : Int} (h : n < 10000000000) : (dec n).size ≤ 10 := by
  have := digs_le 9 n.toNat (by omega)
  simpa [dec, ByteArray.size] using this
theorem dec_one {n : Int} (h : 0 ≤ n) (h1 : n < 10) : strOfNums [48 + n] = dec n := by
  unfold dec strOfNums
  rw [Lib.decDigits, dif_pos (by omega)]
  have : (48 + n).toNat = 48 + n.toNat := by omega
  simp [this]
theorem dec_step {n : Int} (h : 10 ≤ n) : dec (n / 10) ++ strOfNums [48 + n % 10] = dec n := by
  apply ByteArray.ext
  rw [ByteArray.data_append]
  unfold dec strOfNums
  rw [Lib.decDigits.eq_1 n.toNat, dif_neg (by omega)]
  have h1 : (n / 10).toNat = n.toNat / 10 := by omega
  have h2 : (48 + n % 10).toNat = 48 + n.toNat % 10 := by omega
  simp [h1, h2]
theorem one_size (x : Int) : (strOfNums [x]).size ≤ 1 := by rw [strOfNums_size]; simp
/-- The sizes of the units, and their letters. -/
def uSize : Nat → Int
  | 0 => 1000000
  | 1 => 1000
  | _ => 1
def uName : Nat → ByteArray
  | 0 => ⟨#[109]⟩
  | 1 => ⟨#[107]⟩
  | _ => ⟨#[]⟩
def uHas (n : Int) (k : Nat) : Bool := (n % uSize k == 0) && (decide (0 < n) || (k == 2))
/-- The forms of n in the first k units. -/
def forms (n : Int) : Nat → List ByteArray
  | 0 => []
  | k + 1 => forms n k ++ (if uHas n k then [dec (n / uSize k) ++ uName k] else [])
theorem forms_len (n : Int) : ∀ k, (forms n k).length ≤ k
  | 0 => Nat.le_refl _
  | k + 1 => by
    have := forms_len n k
    rw [forms, List.length_append]
    split <;> simp <;> omega
theorem forms_yes {n : Int} {k : Nat} (h : uHas n k = true) : forms n (k + 1) = forms n k ++ [dec (n / uSize k) ++ uName k] := by rw [forms, if_pos h]
theorem forms_no {n : Int} {k : Nat} (h : uHas n k = false) : forms n (k + 1) = forms n k := by rw [forms, if_neg (by rw [h]; decide), List.append_nil]
/-- n with the greatest unit that serves. -/
def ntx (n : Int) : ByteArray := if 0 < n ∧ n % 1000000 = 0 then dec (n / 1000000) ++ ⟨#[109]⟩ else if 0 < n ∧ n % 1000 = 0 then dec (n / 1000) ++ ⟨#[107]⟩ else dec n
theorem forms_ntx {n : Int} (h : 0 ≤ n) : (forms n 3)[0]? = some (ntx n) := by
  have e3 : uHas n 2 = true := by simp [uHas, uSize]
  have ed : dec (n / uSize 2) ++ uName 2 = dec n := by
    apply ByteArray.ext
    rw [ByteArray.data_append]
    simp [uSize, uName]
  simp only [forms, List.nil_append, e3, if_true, ed]
  unfold ntx
  by_cases h1 : 0 < n ∧ n % 1000000 = 0
  · rw [if_pos h1, if_pos (by simp [uHas, uSize, h1])]
    rfl
  · rw [if_neg h1, if_neg (by simp only [uHas, uSize, Bool.and_eq_true, Bool.or_eq_true, beq_iff_eq, decide_eq_true_eq]; omega)]
    by_cases h2 : 0 < n ∧ n % 1000 = 0
    · rw [if_pos h2, if_pos (by simp [uHas, uSize, h2])]
      rfl
    · rw [if_neg h2, if_neg (by simp only [uHas, uSize, Bool.and_eq_true, Bool.or_eq_true, beq_iff_eq, decide_eq_true_eq]; omega)]
      rfl
theorem ntx_size {n : Int} (h : n < 10000000000) (h0 : 0 ≤ n) : (ntx n).size ≤ 11 := by
  unfold ntx
  have e : ∀ x, (ByteArray.mk #[x]).size = 1 := fun _ => rfl
  have a1 := dec_size (n := n / 1000000) (by omega)
  have a2 := dec_size (n := n / 1000) (by omega)
  have a3 := dec_size h
  split
  · rw [ByteArray.size_append, e]; omega
  · split
    · rw [ByteArray.size_append, e]; omega
    · omega
/-! ### the tests -/
def rateB (x : Cls) : Bool := inR x.rate 1 100000 && inR x.ceil x.rate 100000
def burstB (x : Cls) : Bool := inR x.burst 1500 1000000 && inR x.cburst 1500 1000000 && inR x.prio 0 7
def clsB (x : Cls) : Bool := inR x.id 1 999 && inR x.rate 1 100000 && inR x.ceil x.rate 100000 && inR x.burst 1500 1000000 && inR x.cburst 1500 1000000 && inR x.prio 0 7
theorem cls_rate (x : Cls) : clsB x = (inR x.id 1 999 && rateB x && burstB x) := by
  simp only [clsB, rateB, burstB, Bool.and_assoc]
def fltB (f m v : Int) : Bool := inR f 0 3 && inR m 0 65535 && inR v 0 65535 && (bits .andNot .i64 v m == 0)
def filB1 (x : Flt) : Bool := inR x.prio 1 99 && fltB x.field x.mask x.value
/-- The head of a class. -/
def headT (x : Cls) : ByteArray := ⟨#[99, 108, 97, 115, 115, 32]⟩ ++ dec x.id ++ ⟨#[32, 114, 97, 116, 101, 32]⟩ ++ ntx x.rate ++ ⟨#[32, 99, 101, 105, 108, 32]⟩ ++ ntx x.ceil ++ ⟨#[32, 98, 117, 114, 115, 116, 32]⟩ ++ ntx x.burst ++ ⟨#[32, 99, 98, 117, 114, 115, 116, 32]⟩ ++ ntx x.cburst ++ ⟨#[32, 112, 114, 105, 111, 32]⟩ ++ dec x.prio
end Go.Proofs.YtnamgkiealfffaaDoor
