/- Contracts: sizes of attributes. -/
import Derived.Test.YtifhjhgccknndaaDoorAttQ
namespace Go.Proofs.YtifhjhgccknndaaDoor
open Go.RowKit
set_option maxHeartbeats 1000000
set_option linter.unusedSimpArgs false
set_option linter.unusedVariables false

theorem impl_sizeOf_any (v : Value) (l : List Att) (i : Nat) (w : World) (h : RdA w v l) (hi : i < l.length) (hg : goodB l = true) :
    Calls Tryd.prog 72 #[v, .int .i64 (i : Int)] w fun e w' => e = .returned (.int .i64 (preSz l (endN l i) - preSz l i)) ∧ Ext w w' := by
  have hl := (good_get hg).1
  have H := Lib.hid h
  obtain ⟨A, c, rfl, hc, hrd⟩ := h
  obtain ⟨he0, he1⟩ := endN_lt l i hi
  have HR := Lib.hid hrd
  have HG := Lib.hid hg
  clear hrd hg
  go_enter Tryd.func72, Tryd.ntmps72
  go_wp2
  go_loopw [6, 5] (fun t s wr => ∃ k : Nat, i ≤ k ∧ k ≤ endN l i ∧ t = .int .i64 (k : Int) ∧ s = .int .i64 (preSz l k - preSz l i) ∧ Ext w wr) (fun t _ _ => l.length - (intOf t).toNat)
  case atStart => exact ⟨i, Nat.le_refl _, by omega, rfl, by simp, Ext.refl _⟩
  case round =>
    obtain ⟨k, hk0, hk1, rfl, rfl, hx⟩ := hrel
    go_wp2_with fail
    refine (impl_endOf_any _ l i _ (H.out.ext hx) (by omega) hi).mono ?_
    rintro e w1 ⟨rfl, hb1⟩
    by_cases hlt : k < endN l i
    · have hkl : k < l.length := by omega
      obtain ⟨b, o, rfl, hb, hcell⟩ := HR.out k l[k] (List.getElem?_eq_getElem hkl)
      have hs := preSz_succ l k hkl
      have hbd := preSz_mono HG.out i k hk0 (by omega)
      have hsb := sz_bd HG.out k hkl
      generalize l[k] = x at hcell hs hsb
      have c3 : w1.cell? ⟨b, o + k * 4 + 3, none⟩ = some (.string x.data) := by rw [Ext.cell (hx.trans hb1) hb]; exact hcell 3 _ rfl
      have HS := Lib.hid hs
      obtain ⟨p0, p1⟩ := hbd
      have s0 : x.data.size ≤ 1000 := by unfold szA at hsb; omega
      clear hcell hs hsb
      go_wp2
      go_roundw
      case rel => exact ⟨k + 1, by omega, by omega, by go_num, by rw [HS.out]; unfold szA; go_num, hx.trans hb1⟩
      case measure => simp [intOf]; omega
    · obtain rfl : k = endN l i := by omega
      go_wp2
      go_ret
      exact ⟨rfl, hx.trans hb1⟩

theorem impl_wholeSize_any (v : Value) (l : List Att) (w : World) (h : RdA w v l) (hg : goodB l = true) :
    Calls Tryd.prog 67 #[v] w fun e w' => e = .returned (.int .i64 (preSz l l.length)) ∧ Ext w w' := by
  have hl := (good_get hg).1
  have H := Lib.hid h
  obtain ⟨A, c, rfl, hc, _⟩ := h
  have HG := Lib.hid hg
  clear hg
  go_enter Tryd.func67, Tryd.ntmps67
  go_wp2
  go_loopw [4, 3] (fun t s wr => ∃ k : Nat, k ≤ l.length ∧ t = .int .i64 (k : Int) ∧ s = .int .i64 (preSz l k) ∧ Ext w wr) (fun t _ _ => l.length - (intOf t).toNat)
  case atStart => exact ⟨0, Nat.zero_le _, rfl, rfl, Ext.refl _⟩
  case round =>
    obtain ⟨k, hk, rfl, rfl, hx⟩ := hrel
    by_cases hlt : k < l.length
    · obtain ⟨he0, he1⟩ := endN_lt l k hlt
      have hb0 := preSz_mono HG.out 0 k (by omega) hk
      have hb1 := preSz_mono HG.out k (endN l k) (by omega) he1
      have hz : preSz l 0 = 0 := rfl
      rw [hz] at hb0
      clear hz
      go_wp2_with fail
      refine (impl_sizeOf_any _ l k _ (H.out.ext hx) hlt HG.out).mono ?_
      rintro e w1 ⟨rfl, F1⟩
      go_wp2_with fail
      refine (impl_endOf_any _ l k _ (H.out.ext (hx.trans F1)) (by omega) hlt).mono ?_
      rintro e w2 ⟨rfl, F2⟩
      go_wp2
      go_roundw
      case rel => exact ⟨endN l k, he1, rfl, by go_num, (hx.trans F1).trans F2⟩
      case measure => simp [intOf]; omega
    · obtain rfl : k = l.length := by omega
      go_wp2
      go_ret
      exact ⟨rfl, hx⟩

/-- The attributes are valid and their binary form is not too long. -/
def encB (l : List Att) : Bool := goodB l && decide (preSz l l.length ≤ 6000)
theorem impl_encodable_any (v : Value) (l : List Att) (w : World) (h : RdA w v l) (hl : l.length ≤ 1048576) :
    Calls Tryd.prog 58 #[v] w fun e w' => e = .returned (.bool (encB l)) ∧ Ext w w' := by
  have H := Lib.hid h
  clear h
  by_cases hg : goodB l = true
  · go_enter Tryd.func58, Tryd.ntmps58
    go_wp2_with fail
    refine (impl_AreAttrs_any _ l _ H.out hl).mono ?_
    rintro e w1 ⟨rfl, F1⟩
    rw [hg]
    go_wp2_with fail
    refine (impl_wholeSize_any _ l _ (H.out.ext F1) hg).mono ?_
    rintro e w2 ⟨rfl, F2⟩
    go_wp2
    go_ret
    exact ⟨by simp [encB, hg], F1.trans F2⟩
  · replace hg : goodB l = false := by simpa using hg
    go_enter Tryd.func58, Tryd.ntmps58
    go_wp2_with fail
    refine (impl_AreAttrs_any _ l _ H.out hl).mono ?_
    rintro e w1 ⟨rfl, F1⟩
    rw [hg]
    go_wp2
    go_ret
    exact ⟨by simp [encB, hg], F1⟩

theorem spec_tvPad_any (n : Int) (w : World) (h0 : 0 ≤ n) (h1 : n ≤ 100000000) :
    Calls Tryd.prog 71 #[.int .i64 n] w fun e w' => e = .returned (.int .i64 ((n + 3) / 4 * 4)) ∧ w = w' := by
  go_enter Tryd.func71, Tryd.ntmps71
  go_wp2
  go_ret
  exact ⟨rfl, rfl⟩

end Go.Proofs.YtifhjhgccknndaaDoor
