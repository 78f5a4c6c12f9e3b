/- Contracts: children of attributes, the reference's side. -/
import Derived.Test.YtifhjhgccknndaaAttT
namespace Go.Proofs.Ytifhjhgccknndaa
open Go.RowKit
set_option maxHeartbeats 1000000
set_option linter.unusedSimpArgs false
set_option linter.unusedVariables false

/-- From a child to the index behind it: no other child between. -/
theorem kd_jump (l : List Att) (i k : Nat) (hi : i < l.length) (hk : k < l.length) (hik : i < k) (hd : dAt l k = dAt l i + 1) :
    kd l (dAt l i) (i + 1) (endN l k - (i + 1)) = kd l (dAt l i) (i + 1) (k - (i + 1)) ++ [(k : Int)] := by
  obtain ⟨he0, he1⟩ := endN_lt l k hk
  have e1 : endN l k - (i + 1) = (k - (i + 1) + 1) + (endN l k - (k + 1)) := by omega
  rw [e1, kd_skip l (dAt l i) (i + 1) (k - (i + 1) + 1) (endN l k - (k + 1)) (fun j h1 h2 => ?_), kd]
  · have e2 : i + 1 + (k - (i + 1)) = k := by omega
    rw [e2, if_pos hd]
  · have hj : i + 1 + j < l.length := by omega
    have := end_in l k (i + 1 + j) hk hj (by omega) (by omega)
    rw [dAt_is l _ hj]
    rw [dAt_is l k hk] at hd
    omega
/-- The first attribute behind a child is a child too, if it lies in the parent. -/
theorem kid_next {l : List Att} (i k : Nat) (hi : i < l.length) (hk : k < l.length) (hd : dAt l k = dAt l i + 1) (h1 : i < k) (h : endN l k < endN l i) : dAt l (endN l k) = dAt l i + 1 := by
  obtain ⟨he0, he1⟩ := endN_lt l k hk
  obtain ⟨hi0, hi1⟩ := endN_lt l i hi
  have hl : endN l k < l.length := by omega
  have a := end_at l k hk hl
  have b := end_in l i (endN l k) hi hl (by omega) h
  rw [dAt_is l k hk, dAt_is l i hi] at hd
  rw [dAt_is l _ hl, dAt_is l i hi]
  omega
theorem kid_first {l : List Att} (hg : goodB l = true) (i : Nat) (hi : i < l.length) (h : i + 1 < endN l i) : dAt l (i + 1) = dAt l i + 1 := by
  obtain ⟨hi0, hi1⟩ := endN_lt l i hi
  have hl : i + 1 < l.length := by omega
  have a := good_nest hg i hl
  have b := end_in l i (i + 1) hi hl (by omega) h
  rw [dAt_is l _ hl, dAt_is l i hi]
  have : mostAft l[i] ≤ l[i].depth + 1 := by unfold mostAft; split <;> omega
  omega

theorem spec_tvKids_any (v : Value) (l : List Att) (n : Nat) (w : World) (h : RdA w v l) (hg : goodB l = true) (hn : n < l.length) :
    Calls Try.prog 78 #[v, .int .i64 (n : Int)] w fun e w' => ∃ u, e = .returned u ∧ OwnI w' w.heap.size 3 u (kids l n) ∧ Ext w w' := by
  have H := Lib.hid h
  have HG := Lib.hid hg
  have hl4 := (good_get hg).1
  obtain ⟨he0, he1⟩ := endN_lt l n hn
  clear h hg
  go_enter Try.func78, Try.ntmps78
  go_wp2
  go_loopw [6, 5] (fun t s wr => ∃ k : Nat, n + 1 ≤ k ∧ k ≤ endN l n ∧ t = .int .i64 (k : Int) ∧ Hid (k < endN l n → dAt l k = dAt l n + 1) ∧ OwnI wr w.heap.size 3 s (kd l (dAt l n) (n + 1) (k - (n + 1))) ∧ Ext w wr) (fun t _ _ => l.length - (intOf t).toNat)
  case atStart => exact ⟨n + 1, Nat.le_refl _, by omega, by go_num, fun h => kid_first HG.out n hn h, by rw [Nat.sub_self]; exact World.ownsRow_nil _ _ _ _, Ext.refl _⟩
  case round =>
    obtain ⟨k, hk0, hk1, rfl, HD, hown, hx⟩ := hrel
    have HO := Lib.hid hown
    clear hown
    go_wp2_with fail
    refine (spec_tvEnd_any _ l n _ (H.out.ext hx) (by omega) hn).mono ?_
    rintro e w2 ⟨rfl, F2⟩
    have E2 := hx.trans F2
    by_cases hlt : k < endN l n
    · have hkl : k < l.length := by omega
      have HJ := Lib.hid (kd_jump l n k hn hkl (by omega) (HD.out hlt))
      have HX := Lib.hid (fun h => kid_next n k hn hkl (HD.out hlt) (by omega) h)
      obtain ⟨hf0, hf1⟩ := endN_lt l k hkl
      have hcl := closed_in l n hn k (by omega) hlt
      have HLN := Lib.hid (show (kd l (dAt l n) (n + 1) (k - (n + 1))).length ≤ 10000000 by have := kd_len l (dAt l n) (n + 1) (k - (n + 1)); omega)
      go_wp2_with (at_builtin; refine app_int (Own.ext HO.out F2) HLN.out E2 rfl rfl rfl rfl ?_; intro v1 w3 hown1 hx3)
      have HO1 := Lib.hid hown1
      clear hown1
      go_wp2_with fail
      refine (spec_tvEnd_any _ l k _ (H.out.ext hx3) (by omega) hkl).mono ?_
      rintro e w4 ⟨rfl, F4⟩
      go_wp2
      go_roundw
      case rel => exact ⟨endN l k, by omega, hcl, rfl, HX.out, by rw [HJ.out]; exact Own.ext HO1.out F4, hx3.trans F4⟩
      case measure => simp [intOf]; omega
    · obtain rfl : k = endN l n := by omega
      go_wp2
      go_ret
      exact ⟨_, rfl, Own.ext HO.out F2, E2⟩
theorem spec_ChildrenOf_any (v : Value) (l : List Att) (i : Int) (w : World) (h : RdA w v l) (hl : l.length ≤ 1048576) :
    Calls Try.prog 42 #[v, .int .i64 i] w fun e w' => ∃ u, e = .returned (.tuple #[u, .bool (hasB l i)]) ∧ OwnI w' w.heap.size 3 u (kidV l i) ∧ Ext w w' := by
  have H := Lib.hid h
  clear h
  by_cases hh : hasB l i = true
  · obtain ⟨hg, h0, h1⟩ := hasB_parts hh
    obtain ⟨n, rfl⟩ := Int.eq_ofNat_of_zero_le h0
    have HV := Lib.hid (show kidV l n = kids l n by simp [kidV, hh])
    have HG := Lib.hid hg
    clear hg
    go_enter Try.func42, Try.ntmps42
    go_wp2_with fail
    refine (spec_tvHas_any _ l _ _ H.out hl).mono ?_
    rintro e w1 ⟨rfl, F1⟩
    rw [hh]
    go_wp2_with fail
    refine (spec_tvKids_any _ l n _ (H.out.ext F1) HG.out (by omega)).mono ?_
    rintro e w2 ⟨u, rfl, O2, F2⟩
    have HO := Lib.hid O2
    clear O2
    go_wp2
    go_ret2
    exact ⟨_, by rw [hh]; rfl, by rw [HV.out]; exact Own.mono HO.out (Ext.size F1), F1.trans F2⟩
  · replace hh : hasB l i = false := by simpa using hh
    have HV := Lib.hid (show kidV l i = [] by simp [kidV, hh])
    go_enter Try.func42, Try.ntmps42
    go_wp2_with fail
    refine (spec_tvHas_any _ l _ _ H.out hl).mono ?_
    rintro e w1 ⟨rfl, F1⟩
    rw [hh]
    go_wp2
    go_ret2
    exact ⟨_, by rw [hh]; rfl, by rw [HV.out]; exact World.ownsRow_nil _ _ _ _, F1⟩
end Go.Proofs.Ytifhjhgccknndaa
