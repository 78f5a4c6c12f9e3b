/- Texts of numbers to base 16, and of a filter: the plain side. -/
import Derived.Test.YtnamgkiealfffaaDoorTxtP
namespace Go.Proofs.YtnamgkiealfffaaDoor
open Go.RowKit
set_option maxRecDepth 20000
set_option linter.unusedVariables false
set_option linter.unusedSimpArgs false
def hexStr : ByteArray := ⟨#[48, 49, 50, 51, 52, 53, 54, 55, 56, 57, 97, 98, 99, 100, 101, 102]⟩
/-- The digit d. -/
def hdig (d : Int) : ByteArray := hexStr.extract d.toNat (d + 1).toNat
theorem hdig_size {d : Int} (h0 : 0 ≤ d) (h1 : d < 16) : (hdig d).size = 1 := by
  unfold hdig
  rw [ByteArray.size_extract]
  have : hexStr.size = 16 := rfl
  omega
/-- The digits of q ahead of a text. -/
def hexs (q : Int) (acc : ByteArray) : ByteArray := if h : 0 < q / 16 then hexs (q / 16) (hdig (q % 16) ++ acc) else hdig (q % 16) ++ acc
termination_by q.toNat
decreasing_by omega
theorem hexs_more {q : Int} (h : 0 < q / 16) (acc : ByteArray) : hexs q acc = hexs (q / 16) (hdig (q % 16) ++ acc) := by rw [hexs, dif_pos h]
theorem hexs_last {q : Int} (h : ¬ 0 < q / 16) (acc : ByteArray) : hexs q acc = hdig (q % 16) ++ acc := by rw [hexs, dif_neg h]
theorem hexs_size : ∀ (n : Nat) (q : Int) (acc : ByteArray), 0 ≤ q → q ≤ n → (hexs q acc).size ≤ acc.size + n + 1
  | 0, q, acc, h0, h1 => by
    rw [hexs_last (by omega), ByteArray.size_append, hdig_size (by omega) (by omega)]
    omega
  | n + 1, q, acc, h0, h1 => by
    by_cases h : 0 < q / 16
    · rw [hexs_more h]
      have := hexs_size n (q / 16) (hdig (q % 16) ++ acc) (by omega) (by omega)
      rw [ByteArray.size_append, hdig_size (by omega) (by omega)] at this
      omega
    · rw [hexs_last h, ByteArray.size_append, hdig_size (by omega) (by omega)]
      omega
def hexT (n : Int) : ByteArray := ⟨#[48, 120]⟩ ++ hexs n ⟨#[]⟩
theorem hexs_le {n : Int} (h0 : 0 ≤ n) (h1 : n ≤ 65535) : (hexs n ⟨#[]⟩).size ≤ 65536 := by
  have := hexs_size 65535 n ⟨#[]⟩ h0 (by omega)
  have e : (ByteArray.mk #[]).size = 0 := rfl
  omega
theorem hexT_size {n : Int} (h0 : 0 ≤ n) (h1 : n ≤ 65535) : (hexT n).size ≤ 65538 := by
  unfold hexT
  rw [ByteArray.size_append]
  have e : (ByteArray.mk #[48, 120]).size = 2 := rfl
  have := hexs_le h0 h1
  omega
/-- The fields' names. -/
def fldL : List ByteArray := [⟨#[115, 111, 117, 114, 99, 101]⟩, ⟨#[100, 101, 115, 116]⟩, ⟨#[112, 111, 114, 116]⟩, ⟨#[109, 97, 114, 107]⟩]
def fldN (k : Int) : ByteArray := fldL.getD k.toNat ⟨#[]⟩
/-- The line of a filter. -/
def filT (x : Flt) : ByteArray := ⟨#[102, 105, 108, 116, 101, 114, 32]⟩ ++ dec x.prio ++ ⟨#[32]⟩ ++ fldN x.field ++ ⟨#[32]⟩ ++ hexT x.value ++ ⟨#[32, 47, 32]⟩ ++ hexT x.mask ++ ⟨#[32, 45, 62, 32]⟩ ++ dec x.target ++ ⟨#[59]⟩
def filOk (x : Flt) : Bool := filB1 x && inR x.target 1 999
def filR (x : Flt) : ByteArray := if filOk x then filT x else ⟨#[]⟩
/-- How many rounds may follow. -/
def hexM (t u : Value) : Nat := match u with
  | .bool false => 0
  | _ => (intOf t).toNat + 1
def hexL (t u : Value) : Nat := if 0 < (intOf t).toNat then (intOf t).toNat + 1 else match u with
  | .string s => 1 - s.size
  | _ => 0
theorem hexL_pos {q : Int} {k : IntKind} {s : ByteArray} (h : 0 < q) : hexL (.int k q) (.string s) = q.toNat + 1 := if_pos (show 0 < q.toNat by omega)
theorem hexL_zero {q : Int} {k : IntKind} {s : ByteArray} (h : ¬ 0 < q) : hexL (.int k q) (.string s) = 1 - s.size := if_neg (show ¬ 0 < q.toNat by omega)
end Go.Proofs.YtnamgkiealfffaaDoor
