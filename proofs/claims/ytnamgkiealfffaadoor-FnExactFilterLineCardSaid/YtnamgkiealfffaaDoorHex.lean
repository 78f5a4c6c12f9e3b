/- Texts of numbers to base 16: contracts of both sides. -/
import Derived.Test.YtnamgkiealfffaaDoorHexP
import Derived.Test.YtnamgkiealfffaaDoorTxt3
namespace Go.Proofs.YtnamgkiealfffaaDoor
open Go.RowKit
set_option maxRecDepth 20000
set_option maxHeartbeats 1000000
set_option linter.unusedSimpArgs false
set_option linter.unusedVariables false

theorem spec_nuHex_any (n : Int) (w : World) (h0 : 0 ≤ n) (h1 : n ≤ 65535) :
    Calls Tryd.prog 40 #[.int .i64 n] w fun e w' => e = .returned (.string (hexT n)) ∧ Ext w w' := by
  have HL := Lib.hid (hexs_le h0 h1)
  go_enter Tryd.func40, Tryd.ntmps40
  go_wp2
  go_loopw [0, 3, 4] (fun t s u wr => ∃ (q : Int) (acc : ByteArray) (ok : Bool), t = .int .i64 q ∧ s = .string acc ∧ u = .bool ok ∧ 0 ≤ q ∧ q ≤ 65535 ∧ acc.size ≤ 65536 ∧ (ok = true → (acc.size : Int) + q ≤ 65535) ∧ Hid (hexs n ⟨#[]⟩ = if ok then hexs q acc else acc) ∧ Ext w wr) (fun t s u _ => hexM t u)
  case atStart => exact ⟨n, ⟨#[]⟩, true, rfl, rfl, rfl, h0, h1, by show 0 ≤ 65536; omega, fun _ => by show ((0 : Nat) : Int) + n ≤ 65535; omega, rfl, Ext.refl _⟩
  case round =>
    obtain ⟨q, acc, ok, rfl, rfl, rfl, q0, q1, hs, hsq, hd, hx⟩ := hrel
    cases ok
    · have hsz : acc.size ≤ 65536 := hs
      go_wp2
      go_ret
      exact ⟨by rw [hexT, hd.out]; rfl, hx⟩
    · have hsq := hsq rfl
      have hsz := hdig_size (d := q % 16) (by omega) (by omega)
      have HSZ := Lib.hid hsz
      have hsz1 : (hdig (q % 16)).size ≤ 1 := by omega
      clear hsz
      by_cases hm : 0 < q / 16
      · have HD := Lib.hid (hd.out.trans (hexs_more hm acc))
        go_wp2
        go_roundw
        case rel => exact ⟨q / 16, hdig (q % 16) ++ acc, true, rfl, rfl, rfl, by omega, by omega, by rw [ByteArray.size_append, HSZ.out]; omega, fun _ => by rw [ByteArray.size_append, HSZ.out]; omega, HD.out, hx⟩
        case measure => simp [hexM, intOf]; omega
      · have HD := Lib.hid (hd.out.trans (hexs_last hm acc))
        go_wp2
        go_roundw
        case rel => exact ⟨q / 16, hdig (q % 16) ++ acc, false, rfl, rfl, rfl, by omega, by omega, by rw [ByteArray.size_append, HSZ.out]; omega, fun h => absurd h (by decide), HD.out, hx⟩
        case measure => simp [hexM, intOf]
theorem impl_HexOf_any (n : Int) (w : World) (h0 : 0 ≤ n) (h1 : n ≤ 65535) :
    Calls Tryd.prog 50 #[.int .i64 n] w fun e w' => e = .returned (.tuple #[.string (hexT n), .bool true]) ∧ Ext w w' := by
  have HL := Lib.hid (hexs_le h0 h1)
  go_enter Tryd.func50, Tryd.ntmps50
  go_wp2
  go_loopw [0, 4] (fun t s wr => ∃ (q : Int) (acc : ByteArray), t = .int .i64 q ∧ s = .string acc ∧ 0 ≤ q ∧ q ≤ 65535 ∧ ((acc = ⟨#[]⟩ ∧ q = n) ∨ 1 ≤ acc.size) ∧ (acc.size : Int) + q ≤ 65536 ∧ Hid (hexs n ⟨#[]⟩ = if 0 < q ∨ acc.size = 0 then hexs q acc else acc) ∧ Ext w wr) (fun t s _ => hexL t s)
  case atStart => exact ⟨n, ⟨#[]⟩, rfl, rfl, h0, h1, .inl ⟨rfl, rfl⟩, by show ((0 : Nat) : Int) + n ≤ 65536; omega, Lib.hid (by rw [if_pos (.inr rfl)]), Ext.refl _⟩
  case round =>
    obtain ⟨q, acc, rfl, rfl, q0, q1, hst, hsq, hd, hx⟩ := hrel
    have hand : bits .and .i64 q 15 = q % 16 := bits_mask .i64 62 (by decide) (fun n h0 h1 => by rw [IntKind.wrap_i64]; omega) 4 (by decide) q q0 (by omega)
    have hsz := hdig_size (d := q % 16) (by omega) (by omega)
    have HSZ := Lib.hid hsz
    have hsz1 : (hdig (q % 16)).size ≤ 1 := by omega
    have HD := Lib.hid (show hexs q acc = if 0 < q / 16 ∨ (hdig (q % 16) ++ acc).size = 0 then hexs (q / 16) (hdig (q % 16) ++ acc) else hdig (q % 16) ++ acc by
      by_cases hm : 0 < q / 16
      · rw [hexs_more hm, if_pos (.inl hm)]
      · rw [hexs_last hm, if_neg (by rw [ByteArray.size_append, hsz]; omega)])
    clear hsz
    by_cases hq : 0 < q
    · have HD2 := Lib.hid ((hd.out.trans (if_pos (.inl hq))).trans HD.out)
      clear hd HD hst
      go_wp2
      go_roundw
      case rel => exact ⟨q / 16, hdig (q % 16) ++ acc, rfl, rfl, by omega, by omega, .inr (by rw [ByteArray.size_append, HSZ.out]; omega), by rw [ByteArray.size_append, HSZ.out]; omega, HD2, hx⟩
      case measure =>
        have e : (hdig (q % 16) ++ acc).size = 1 + acc.size := by rw [ByteArray.size_append, HSZ.out]
        show hexL (.int .i64 (q / 16)) (.string (hdig (q % 16) ++ acc)) < _
        rw [hexL_pos hq]
        by_cases hm : 0 < q / 16
        · rw [hexL_pos hm]; omega
        · rw [hexL_zero hm, e]; omega
    · obtain rfl : q = 0 := by omega
      rcases hst with ⟨rfl, hn⟩ | hst
      · have HD2 := Lib.hid ((hd.out.trans (if_pos (.inr rfl))).trans HD.out)
        clear hd HD hn
        go_wp2
        go_roundw
        case rel => exact ⟨0 / 16, hdig (0 % 16) ++ ⟨#[]⟩, rfl, rfl, by omega, by omega, .inr (by rw [ByteArray.size_append, HSZ.out]; omega), by rw [ByteArray.size_append, HSZ.out]; show ((1 + 0 : Nat) : Int) + 0 / 16 ≤ 65536; omega, HD2, hx⟩
        case measure =>
          have e : (hdig (0 % 16) ++ ⟨#[]⟩).size = 1 := by rw [ByteArray.size_append, HSZ.out]; rfl
          show hexL (.int .i64 0) (.string (hdig (0 % 16) ++ ⟨#[]⟩)) < hexL (.int .i64 0) (.string ⟨#[]⟩)
          simp only [hexL, intOf, e]
          decide
      · have HD2 := Lib.hid (hd.out.trans (if_neg (by omega)))
        clear hd HD
        have hne : acc.toList.isEmpty = false := by
          rw [ByteArray.toList_eq]
          cases hl : acc.data.toList with
          | nil => have : acc.size = 0 := by rw [← ByteArray.size_data, ← Array.length_toList, hl]; rfl
                   omega
          | cons _ _ => rfl
        go_wp2
        (refine bodyPost_ret (v := .tuple #[.string (⟨#[48, 120]⟩ ++ acc), .bool true]) (by simp [results, Tryd.results50, go_sem, *]) rfl ⟨?_, ?_⟩)
        · rw [hexT, HD2.out]
        · exact hx
theorem impl_HexText_any (n : Int) (w : World) (h0 : 0 ≤ n) (h1 : n ≤ 65535) :
    Calls Tryd.prog 41 #[.int .i64 n] w fun e w' => e = .returned (.tuple #[.string (hexT n), .bool true]) ∧ Ext w w' := by
  go_enter Tryd.func41, Tryd.ntmps41
  go_wp2_with (first | (go_at_call 50; refine (impl_HexOf_any _ _ h0 h1).mono ?_; rintro e w1 ⟨rfl, F1⟩))
  (refine bodyPost_ret (v := .tuple #[.string (hexT n), .bool true]) (by simp [results, Tryd.results41, go_sem, *]) rfl ⟨?_, ?_⟩)
  · rfl
  · exact F1
def fldCells : Array Value := #[.string ⟨#[115, 111, 117, 114, 99, 101]⟩, .string ⟨#[100, 101, 115, 116]⟩, .string ⟨#[112, 111, 114, 116]⟩, .string ⟨#[109, 97, 114, 107]⟩]
/-- Four names lie in block b. -/
def FldB (w : World) (b : Nat) : Prop := w.cell? ⟨b, 0, none⟩ = some (.string ⟨#[115, 111, 117, 114, 99, 101]⟩) ∧ w.cell? ⟨b, 1, none⟩ = some (.string ⟨#[100, 101, 115, 116]⟩) ∧ w.cell? ⟨b, 2, none⟩ = some (.string ⟨#[112, 111, 114, 116]⟩) ∧ w.cell? ⟨b, 3, none⟩ = some (.string ⟨#[109, 97, 114, 107]⟩)
theorem spec_prFields_any (w : World) :
    Calls Tryd.prog 39 #[] w fun e w' => ∃ b, e = .returned (.slice (some ⟨b, 0, none⟩) 4 4) ∧ FldB w' b ∧ Ext w w' := by
  go_enter Tryd.func39, Tryd.ntmps39
  go_wp2
  go_ret
  exact ⟨w.heap.size, rfl, by simp [FldB], (Ext.refl _).alloc _⟩
theorem impl_fieldNames_any (w : World) :
    Calls Tryd.prog 42 #[] w fun e w' => ∃ b, e = .returned (.slice (some ⟨b, 0, none⟩) 4 4) ∧ FldB w' b ∧ Ext w w' := by
  go_enter Tryd.func42, Tryd.ntmps42
  go_wp2
  go_ret
  exact ⟨w.heap.size, rfl, by simp [FldB], (Ext.refl _).alloc _⟩
end Go.Proofs.YtnamgkiealfffaaDoor
