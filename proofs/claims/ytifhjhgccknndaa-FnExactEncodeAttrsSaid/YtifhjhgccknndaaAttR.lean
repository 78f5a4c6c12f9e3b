/- Contracts: sizes of attributes. -/
import Derived.Test.YtifhjhgccknndaaAttQ
namespace Go.Proofs.Ytifhjhgccknndaa
open Go.RowKit
set_option maxHeartbeats 1000000
set_option linter.unusedSimpArgs false
set_option linter.unusedVariables false

theorem impl_sizeOf_any (v : Value) (l : List Att) (i : Nat) (w : World) (h : RdA w v l) (hi : i < l.length) (hg : goodB l = true) :
    Calls Try.prog 72 #[v, .int .i64 (i : Int)] w fun e w' => e = .returned (.int .i64 (preSz l (endN l i) - preSz l i)) ∧ Ext w w' := by
  have hl := (good_get hg).1
  have H := Lib.hid h
  obtain ⟨A, c, rfl, hc, hrd⟩ := h
  obtain ⟨he0, he1⟩ := endN_lt l i hi
  have HR := Lib.hid hrd
  have HG := Lib.hid hg
  clear hrd hg
  go_enter Try.func72, Try.ntmps72
  go_wp2
  go_loopw [6, 5] (fun t s wr => ∃ k : Nat, i ≤ k ∧ k ≤ endN l i ∧ t = .int .i64 (k : Int) ∧ s = .int .i64 (preSz l k - preSz l i) ∧ Ext w wr) (fun t _ _ => l.length - (intOf t).toNat)
  case atStart => exact ⟨i, Nat.le_refl _, by omega, rfl, by simp, Ext.refl _⟩
  case round =>
    obtain ⟨k, hk0, hk1, rfl, rfl, hx⟩ := hrel
    go_wp2_with fail
    refine (impl_endOf_any _ l i _ (H.out.ext hx) (by omega) hi).mono ?_
    rintro e w1 ⟨rfl, hb1⟩
    by_cases hlt : k < endN l i
    · have hkl : k < l.length := by omega
      obtain ⟨b, o, rfl, hb, hcell⟩ := HR.out k l[k] (List.getElem?_eq_getElem hkl)
      have hs := preSz_succ l k hkl
      have hbd := preSz_mono HG.out i k hk0 (by omega)
      have hsb := sz_bd HG.out k hkl
      generalize l[k] = x at hcell hs hsb
      have c3 : w1.cell? ⟨b, o + k * 4 + 3, none⟩ = some (.string x.data) := by rw [Ext.cell (hx.trans hb1) hb]; exact hcell 3 _ rfl
      have HS := Lib.hid hs
      obtain ⟨p0, p1⟩ := hbd
      have s0 : x.data.size ≤ 1000 := by unfold szA at hsb; omega
      clear hcell hs hsb
      go_wp2
      go_roundw
      case rel => exact ⟨k + 1, by omega, by omega, by go_num, by rw [HS.out]; unfold szA; go_num, hx.trans hb1⟩
      case measure => simp [intOf]; omega
    · obtain rfl : k = endN l i := by omega
      go_wp2
      go_ret
      exact ⟨rfl, hx.trans hb1⟩

theorem impl_wholeSize_any (v : Value) (l : List Att) (w : World) (h : RdA w v l) (hg : goodB l = true) :
    Calls Try.prog 88 #[v] w fun e w' => e = .returned (.int .i64 (preSz l l.length)) ∧ Ext w w' := by
  have hl := (good_get hg).1
  have H := Lib.hid h
  obtain ⟨A, c, rfl, hc, _⟩ := h
  have HG := Lib.hid hg
  clear hg
  go_enter Try.func88, Try.ntmps88
  go_wp2
  go_loopw [4, 3] (fun t s wr => ∃ k : Nat, k ≤ l.length ∧ t = .int .i64 (k : Int) ∧ s = .int .i64 (preSz l k) ∧ Ext w wr) (fun t _ _ => l.length - (intOf t).toNat)
  case atStart => exact ⟨0, Nat.zero_le _, rfl, rfl, Ext.refl _⟩
  case round =>
    obtain ⟨k, hk, rfl, rfl, hx⟩ := hrel
    by_cases hlt : k < l.length
    · obtain ⟨he0, he1⟩ := endN_lt l k hlt
      have hb0 := preSz_mono HG.out 0 k (by omega) hk
      have hb1 := preSz_mono HG.out k (endN l k) (by omega) he1
      have hz : preSz l 0 = 0 := rfl
      rw [hz] at hb0
      clear hz
      go_wp2_with fail
      refine (impl_sizeOf_any _ l k _ (H.out.ext hx) hlt HG.out).mono ?_
      rintro e w1 ⟨rfl, F1⟩
      go_wp2_with fail
      refine (impl_endOf_any _ l k _ (H.out.ext (hx.trans F1)) (by omega) hlt).mono ?_
      rintro e w2 ⟨rfl, F2⟩
      go_wp2
      go_roundw
      case rel => exact ⟨endN l k, he1, rfl, by go_num, (hx.trans F1).trans F2⟩
      case measure => simp [intOf]; omega
    · obtain rfl : k = l.length := by omega
      go_wp2
      go_ret
      exact ⟨rfl, hx⟩

/-- The attributes are valid and their binary form is not too long. -/
def encB (l : List Att) : Bool := goodB l && decide (preSz l l.length ≤ 6000)
theorem impl_encodable_any (v : Value) (l : List Att) (w : World) (h : RdA w v l) (hl : l.length ≤ 1048576) :
    Calls Try.prog 71 #[v] w fun e w' => e = .returned (.bool (encB l)) ∧ Ext w w' := by
  have H := Lib.hid h
  clear h
  by_cases hg : goodB l = true
  · go_enter Try.func71, Try.ntmps71
    go_wp2_with fail
    refine (impl_AreAttrs_any _ l _ H.out hl).mono ?_
    rintro e w1 ⟨rfl, F1⟩
    rw [hg]
    go_wp2_with fail
    refine (impl_wholeSize_any _ l _ (H.out.ext F1) hg).mono ?_
    rintro e w2 ⟨rfl, F2⟩
    go_wp2
    go_ret
    exact ⟨by simp [encB, hg], F1.trans F2⟩
  · replace hg : goodB l = false := by simpa using hg
    go_enter Try.func71, Try.ntmps71
    go_wp2_with fail
    refine (impl_AreAttrs_any _ l _ H.out hl).mono ?_
    rintro e w1 ⟨rfl, F1⟩
    rw [hg]
    go_wp2
    go_ret
    exact ⟨by simp [encB, hg], F1⟩

theorem spec_tvPad_any (n : Int) (w : World) (h0 : 0 ≤ n) (h1 : n ≤ 100000000) :
    Calls Try.prog 87 #[.int .i64 n] w fun e w' => e = .returned (.int .i64 ((n + 3) / 4 * 4)) ∧ w = w' := by
  go_enter Try.func87, Try.ntmps87
  go_wp2
  go_ret
  exact ⟨rfl, rfl⟩

theorem tv_both (v : Value) (l : List Att) (hg : goodB l = true) : ∀ N : Nat,
    (∀ (i : Nat) (w : World), RdA w v l → i < l.length → 2 * (endN l i - i) ≤ N → Calls Try.prog 70 #[v, .int .i64 (i : Int)] w fun e w' => e = .returned (.int .i64 (preSz l (endN l i) - preSz l i)) ∧ Ext w w') ∧
    (∀ (a b : Nat) (w : World), RdA w v l → a ≤ b → b ≤ l.length → closed l a b → 2 * (b - a) + 1 ≤ N → Calls Try.prog 69 #[v, .int .i64 (a : Int), .int .i64 (b : Int)] w fun e w' => e = .returned (.int .i64 (preSz l b - preSz l a)) ∧ Ext w w') := by
  have hl := (good_get hg).1
  intro N
  induction N with
  | zero => exact ⟨fun i w _ hi hN => absurd hN (by have := endN_lt l i hi; omega), fun a b w _ _ _ _ hN => absurd hN (by omega)⟩
  | succ N ih =>
    have IH := Lib.hid ih
    clear ih
    have HG := Lib.hid hg
    clear hg
    refine ⟨fun i w h hi hN => ?_, fun a b w h hab hbl hcl hN => ?_⟩
    · obtain ⟨he0, he1⟩ := endN_lt l i hi
      have H := Lib.hid h
      obtain ⟨A, c, rfl, hc, hrd⟩ := h
      obtain ⟨bb, o, rfl, hb, hcell⟩ := hrd i l[i] (List.getElem?_eq_getElem hi)
      have c2 : w.cell? ⟨bb, o + i * 4 + 2, none⟩ = some (.bool l[i].nested) := hcell 2 _ rfl
      have c3 : w.cell? ⟨bb, o + i * 4 + 3, none⟩ = some (.string l[i].data) := hcell 3 _ rfl
      have hs := preSz_succ l i hi
      have hleaf := end_leaf HG.out i hi
      have hnest := sz_nested HG.out i hi
      have hsb := sz_bd HG.out i hi
      have hmo := preSz_mono HG.out (i + 1) (endN l i) (by omega) he1
      have hci := closed_in l i hi
      generalize l[i] = x at c2 c3 hs hleaf hnest hsb
      clear hrd hcell
      cases hn : x.nested
      · have hE := hleaf hn
        have HE := Lib.hid (show preSz l (endN l i) - preSz l i = szA x by rw [hE, hs]; omega)
        rw [hn] at c2
        have s0 : x.data.size ≤ 1000 := by unfold szA at hsb; omega
        clear hs hleaf hnest hsb hmo hE hn hci he0 he1 hN
        go_enter Try.func70, Try.ntmps70
        go_wp2_with (go_at_call 87; refine (spec_tvPad_any _ _ (by omega) (by omega)).mono ?_; rintro e w' ⟨rfl, rfl⟩)
        go_ret
        exact ⟨by rw [HE.out]; unfold szA; go_num, Ext.refl _⟩
      · have hS := hnest hn
        have HE := Lib.hid (show preSz l (endN l i) - preSz l i = 4 + (preSz l (endN l i) - preSz l (i + 1)) by rw [hs, hS]; omega)
        have HCI := Lib.hid hci
        rw [hn] at c2
        obtain ⟨m0, m1⟩ := hmo
        clear hs hleaf hnest hsb hS hn hci
        go_enter Try.func70, Try.ntmps70
        go_wp2_with fail
        refine (spec_tvEnd_any _ l i _ H.out (by omega) hi).mono ?_
        rintro e w1 ⟨rfl, F1⟩
        go_wp2_with fail
        rw [show ((i : Int) + 1) = ((i + 1 : Nat) : Int) by omega]
        refine (IH.out.2 (i + 1) (endN l i) _ (H.out.ext F1) (by omega) he1 HCI.out (by omega)).mono ?_
        rintro e w2 ⟨rfl, F2⟩
        go_wp2
        go_ret
        exact ⟨by rw [HE.out]; rfl, F1.trans F2⟩
    · have H := Lib.hid h
      have HCL := Lib.hid hcl
      clear h hcl
      go_enter Try.func69, Try.ntmps69
      go_wp2
      go_loopw [8, 7] (fun t s wr => ∃ k : Nat, a ≤ k ∧ k ≤ b ∧ t = .int .i64 (k : Int) ∧ s = .int .i64 (preSz l k - preSz l a) ∧ Ext w wr) (fun t _ _ => b - (intOf t).toNat)
      case atStart => exact ⟨a, Nat.le_refl _, hab, rfl, by simp, Ext.refl _⟩
      case round =>
        obtain ⟨k, hk0, hk1, rfl, rfl, hx⟩ := hrel
        by_cases hlt : k < b
        · have hkl : k < l.length := by omega
          obtain ⟨he0, _⟩ := endN_lt l k hkl
          have he1 := HCL.out k hk0 hlt
          have hb0 := preSz_mono HG.out a k hk0 (by omega)
          have hb1 := preSz_mono HG.out k (endN l k) (by omega) (by omega)
          go_wp2_with fail
          refine (IH.out.1 k _ (H.out.ext hx) hkl (by omega)).mono ?_
          rintro e w1 ⟨rfl, F1⟩
          go_wp2_with fail
          refine (spec_tvEnd_any _ l k _ (H.out.ext (hx.trans F1)) (by omega) hkl).mono ?_
          rintro e w2 ⟨rfl, F2⟩
          go_wp2
          go_roundw
          case rel => exact ⟨endN l k, by omega, he1, rfl, by go_num, (hx.trans F1).trans F2⟩
          case measure => simp [intOf]; omega
        · obtain rfl : k = b := by omega
          go_wp2
          go_ret
          exact ⟨rfl, hx⟩
theorem spec_tvSize_any (v : Value) (l : List Att) (i : Nat) (w : World) (h : RdA w v l) (hi : i < l.length) (hg : goodB l = true) :
    Calls Try.prog 70 #[v, .int .i64 (i : Int)] w fun e w' => e = .returned (.int .i64 (preSz l (endN l i) - preSz l i)) ∧ Ext w w' :=
  (tv_both v l hg _).1 i w h hi (Nat.le_refl _)
theorem spec_tvLength_any (v : Value) (l : List Att) (a b : Nat) (w : World) (h : RdA w v l) (hab : a ≤ b) (hb : b ≤ l.length) (hc : closed l a b) (hg : goodB l = true) :
    Calls Try.prog 69 #[v, .int .i64 (a : Int), .int .i64 (b : Int)] w fun e w' => e = .returned (.int .i64 (preSz l b - preSz l a)) ∧ Ext w w' :=
  (tv_both v l hg _).2 a b w h hab hb hc (Nat.le_refl _)
end Go.Proofs.Ytifhjhgccknndaa
