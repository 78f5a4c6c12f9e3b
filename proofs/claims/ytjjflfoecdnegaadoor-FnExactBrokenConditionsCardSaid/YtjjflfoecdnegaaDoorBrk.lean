/- ConditionHolds, BrokenConditions: contracts of both sides. Printed by wip/tools/gen_va.py. -/
import Derived.Test.YtjjflfoecdnegaaDoorVa
namespace Go.Proofs.YtjjflfoecdnegaaDoor
open Go.RowKit
set_option maxRecDepth 20000
set_option maxHeartbeats 1000000
set_option linter.unusedSimpArgs false
set_option linter.unusedVariables false

def cdB (n : ByteArray) (cs : List Cls) (fs : List Flt) (d k : Int) : Bool := smallCf cs fs && inR k 1 10
def cdV (n : ByteArray) (cs : List Cls) (fs : List Flt) (d k : Int) : Bool := cdB n cs fs d k && condB n cs fs d k.toNat
def bkQ (n : ByteArray) (cs : List Cls) (fs : List Flt) (d : Int) (k : Nat) : Bool := decide (0 < k) && !condB n cs fs d k
def brkV (n : ByteArray) (cs : List Cls) (fs : List Flt) (d : Int) : List Int := if smallCf cs fs then pick (bkQ n cs fs d) 11 else []
theorem brkV_len (n : ByteArray) (cs : List Cls) (fs : List Flt) (d : Int) : (brkV n cs fs d).length ≤ 2000000 := by
  unfold brkV
  split
  · have := pick_len (bkQ n cs fs d) 11
    omega
  · simp
theorem bkQ_one (n : ByteArray) (cs : List Cls) (fs : List Flt) (d : Int) : pick (bkQ n cs fs d) 1 = [] := by simp [pick, bkQ]
theorem impl_BrokenConditions_any (n : ByteArray) (cv fv : Value) (d : Int) (cs : List Cls) (fs : List Flt) (w : World) (hk : Keys w) (hc : RdC w cv cs) (hf : RdF w fv fs) (hz : n.size + cs.length + fs.length ≤ 1048576) :
    Calls Tryd.prog 23 #[cfgV n cv fv d] w fun e w' => ∃ u, e = .returned (.tuple #[u, .bool (smallCf cs fs)]) ∧ OwnI w' w.heap.size 3 u (brkV n cs fs d) ∧ Ext w w' := by
  have HC := Lib.hid hc
  have HF := Lib.hid hf
  have HK := Lib.hid hk
  clear hc hf hk
  have E0 := (Ext.refl w).alloc (.cells #[.string n, cv, fv, .int .i64 d] 33)
  go_enter Tryd.func23, Tryd.ntmps23
  go_wp2_with fail
  refine (impl_isRaw_any n _ _ d cs fs _ (HC.out.ext E0) (HF.out.ext E0) (by omega) (by omega)).mono ?_
  rintro e wg ⟨rfl, Fg⟩
  have Eg := E0.trans Fg
  cases hr : smallCf cs fs
  · have HV := Lib.hid (show brkV n cs fs d = [] by rw [brkV, hr]; rfl)
    go_wp2
    go_ret2
    exact ⟨_, by rw [hr]; rfl, by rw [HV.out]; exact World.ownsRow_nil _ _ _ _, Eg⟩
  have HRW := Lib.hid hr
  clear hr
  have HV := Lib.hid (show brkV n cs fs d = pick (bkQ n cs fs d) 11 by rw [brkV, HRW.out]; rfl)
  obtain ⟨q0, q1, q2, q3, q4⟩ := (Box.new w n cv fv d 33).ext Fg
  have D0 := Fg.alloc (.cells #[] 3)
  have HST := Lib.hid (show OwnI (wg.alloc (.cells #[] 3)) (w.heap.size + 1) 3 (.slice (some ⟨wg.heap.size, 0, none⟩) 0 0) [] by
    have := World.ownsRow_lit (base := w.heap.size + 1) (e := 3) (size := 1) wg #[] 0 (by omega) (by unfold maxLen; omega) rfl
    unfold OwnI Own
    simpa using this)
  go_wp2
  clear q0 q1 q2 q3 q4
  go_loopw [5, 4] (fun t s wr => ∃ k : Nat, 1 ≤ k ∧ k ≤ 11 ∧ t = .int .i64 (k : Int) ∧ OwnI wr (w.heap.size + 1) 3 s (pick (bkQ n cs fs d) k) ∧ Ext (w.alloc (.cells #[.string n, cv, fv, .int .i64 d] 33)) wr) (fun t _ _ => 11 - (intOf t).toNat)
  case atStart => exact ⟨1, Nat.le_refl _, by omega, rfl, by rw [bkQ_one]; exact HST.out, D0⟩
  case round =>
    obtain ⟨k, hk1, hk, rfl, hown, hx⟩ := hrel
    have HO := Lib.hid hown
    have hxw := E0.trans hx
    have BX := Lib.hid ((Box.new w n cv fv d 33).ext hx)
    clear hown
    by_cases hlt : k < 11
    · have HPK := Lib.hid (show pick (bkQ n cs fs d) (k + 1) = pick (bkQ n cs fs d) k ++ (if bkQ n cs fs d k then [(k : Int)] else []) from rfl)
      have HBK := Lib.hid (show bkQ n cs fs d k = !condB n cs fs d k by rw [bkQ, decide_eq_true (by omega)]; rfl)
      have HLN := Lib.hid (show (pick (bkQ n cs fs d) k).length ≤ 10000000 by have := pick_len (bkQ n cs fs d) k; omega)
      obtain ⟨q0, q1, q2, q3, q4⟩ := BX.out
      go_wp2_with fail
      clear q0 q1 q2 q3 q4
      refine (impl_holds_any n _ _ d k cs fs _ (HK.out.ext hxw) (HC.out.ext hxw) (HF.out.ext hxw) (by omega) (by omega) (by omega) (by omega)).mono ?_
      rintro e w1 ⟨rfl, F1⟩
      have D1 := hx.trans F1
      cases he : condB n cs fs d k
      · have HT := Lib.hid (show bkQ n cs fs d k = true by rw [HBK.out, he]; rfl)
        go_wp2_with (at_builtin; refine app_intB (by simp) (Own.ext HO.out F1) HLN.out D1 rfl rfl rfl rfl ?_; intro v2 w2 hown2 D2)
        have HO2 := Lib.hid hown2
        clear hown2
        go_wp2
        go_roundw
        case rel => exact ⟨k + 1, by omega, by omega, by go_num, by rw [HPK.out, HT.out]; exact HO2.out, D2⟩
        case measure => simp [intOf]; omega
      · have HF' := Lib.hid (show bkQ n cs fs d k = false by rw [HBK.out, he]; rfl)
        go_wp2
        go_roundw
        case rel => exact ⟨k + 1, by omega, by omega, by go_num, by rw [HPK.out, HF'.out]; simp only [Bool.false_eq_true, if_false, List.append_nil]; exact Own.ext HO.out F1, D1⟩
        case measure => simp [intOf]; omega
    · obtain rfl : k = 11 := by omega
      go_wp2
      go_ret2
      exact ⟨_, by rw [HRW.out]; rfl, by rw [HV.out]; exact Own.mono HO.out (by omega), hxw⟩
theorem spec_BrokenConditions_any (n : ByteArray) (cv fv : Value) (d : Int) (cs : List Cls) (fs : List Flt) (w : World) (hk : Keys w) (hc : RdC w cv cs) (hf : RdF w fv fs) (hz : n.size + cs.length + fs.length ≤ 1048576) :
    Calls Tryd.prog 22 #[cfgV n cv fv d] w fun e w' => ∃ u, e = .returned (.tuple #[u, .bool (smallCf cs fs)]) ∧ OwnI w' w.heap.size 3 u (brkV n cs fs d) ∧ Ext w w' := by
  have HC := Lib.hid hc
  have HF := Lib.hid hf
  have HK := Lib.hid hk
  clear hc hf hk
  have E0 := (Ext.refl w).alloc (.cells #[.string n, cv, fv, .int .i64 d] 33)
  go_enter Tryd.func22, Tryd.ntmps22
  go_wp2_with fail
  refine (spec_vaAsked_any n _ _ d cs fs _ (HC.out.ext E0) (HF.out.ext E0) (by omega) (by omega)).mono ?_
  rintro e wg ⟨rfl, Fg⟩
  have Eg := E0.trans Fg
  cases hr : smallCf cs fs
  · have HV := Lib.hid (show brkV n cs fs d = [] by rw [brkV, hr]; rfl)
    go_wp2
    go_ret2
    exact ⟨_, by rw [hr]; rfl, by rw [HV.out]; exact World.ownsRow_nil _ _ _ _, Eg⟩
  have HRW := Lib.hid hr
  clear hr
  have HV := Lib.hid (show brkV n cs fs d = pick (bkQ n cs fs d) 11 by rw [brkV, HRW.out]; rfl)
  obtain ⟨q0, q1, q2, q3, q4⟩ := (Box.new w n cv fv d 33).ext Fg
  have D0 := Fg
  have HST := Lib.hid (show OwnI wg (w.heap.size + 1) 3 (.slice none 0 0) [] from World.ownsRow_nil _ _ _ _)
  go_wp2
  clear q0 q1 q2 q3 q4
  go_loopw [5, 4] (fun t s wr => ∃ k : Nat, 1 ≤ k ∧ k ≤ 11 ∧ t = .int .i64 (k : Int) ∧ OwnI wr (w.heap.size + 1) 3 s (pick (bkQ n cs fs d) k) ∧ Ext (w.alloc (.cells #[.string n, cv, fv, .int .i64 d] 33)) wr) (fun t _ _ => 11 - (intOf t).toNat)
  case atStart => exact ⟨1, Nat.le_refl _, by omega, rfl, by rw [bkQ_one]; exact HST.out, D0⟩
  case round =>
    obtain ⟨k, hk1, hk, rfl, hown, hx⟩ := hrel
    have HO := Lib.hid hown
    have hxw := E0.trans hx
    have BX := Lib.hid ((Box.new w n cv fv d 33).ext hx)
    clear hown
    by_cases hlt : k < 11
    · have HPK := Lib.hid (show pick (bkQ n cs fs d) (k + 1) = pick (bkQ n cs fs d) k ++ (if bkQ n cs fs d k then [(k : Int)] else []) from rfl)
      have HBK := Lib.hid (show bkQ n cs fs d k = !condB n cs fs d k by rw [bkQ, decide_eq_true (by omega)]; rfl)
      have HLN := Lib.hid (show (pick (bkQ n cs fs d) k).length ≤ 10000000 by have := pick_len (bkQ n cs fs d) k; omega)
      obtain ⟨q0, q1, q2, q3, q4⟩ := BX.out
      go_wp2_with fail
      clear q0 q1 q2 q3 q4
      refine (spec_vaHolds_any n _ _ d k cs fs _ (HK.out.ext hxw) (HC.out.ext hxw) (HF.out.ext hxw) (by omega) (by omega) (by omega) (by omega) (by omega)).mono ?_
      rintro e w1 ⟨rfl, F1⟩
      have D1 := hx.trans F1
      cases he : condB n cs fs d k
      · have HT := Lib.hid (show bkQ n cs fs d k = true by rw [HBK.out, he]; rfl)
        go_wp2_with (at_builtin; refine app_intB (by simp) (Own.ext HO.out F1) HLN.out D1 rfl rfl rfl rfl ?_; intro v2 w2 hown2 D2)
        have HO2 := Lib.hid hown2
        clear hown2
        go_wp2
        go_roundw
        case rel => exact ⟨k + 1, by omega, by omega, by go_num, by rw [HPK.out, HT.out]; exact HO2.out, D2⟩
        case measure => simp [intOf]; omega
      · have HF' := Lib.hid (show bkQ n cs fs d k = false by rw [HBK.out, he]; rfl)
        go_wp2
        go_roundw
        case rel => exact ⟨k + 1, by omega, by omega, by go_num, by rw [HPK.out, HF'.out]; simp only [Bool.false_eq_true, if_false, List.append_nil]; exact Own.ext HO.out F1, D1⟩
        case measure => simp [intOf]; omega
    · obtain rfl : k = 11 := by omega
      go_wp2
      go_ret2
      exact ⟨_, by rw [HRW.out]; rfl, by rw [HV.out]; exact Own.mono HO.out (by omega), hxw⟩
end Go.Proofs.YtjjflfoecdnegaaDoor
