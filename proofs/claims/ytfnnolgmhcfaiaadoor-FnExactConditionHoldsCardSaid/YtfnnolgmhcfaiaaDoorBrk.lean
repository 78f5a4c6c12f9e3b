/- ConditionHolds, BrokenConditions: contracts of both sides. Printed by wip/tools/gen_va.py. -/
import Derived.Test.YtfnnolgmhcfaiaaDoorVa
namespace Go.Proofs.YtfnnolgmhcfaiaaDoor
open Go.RowKit
set_option maxRecDepth 20000
set_option maxHeartbeats 1000000
set_option linter.unusedSimpArgs false
set_option linter.unusedVariables false

def cdB (n : ByteArray) (cs : List Cls) (fs : List Flt) (d k : Int) : Bool := smallCf cs fs && inR k 1 10
def cdV (n : ByteArray) (cs : List Cls) (fs : List Flt) (d k : Int) : Bool := cdB n cs fs d k && condB n cs fs d k.toNat
theorem impl_ConditionHolds_any (n : ByteArray) (cv fv : Value) (d k : Int) (cs : List Cls) (fs : List Flt) (w : World) (hk : Keys w) (hc : RdC w cv cs) (hf : RdF w fv fs) (hz : n.size + cs.length + fs.length ≤ 1048576) :
    Calls Tryd.prog 23 #[cfgV n cv fv d, .int .i64 k] w fun e w' => e = .returned (.tuple #[.bool (cdV n cs fs d k), .bool (cdB n cs fs d k)]) ∧ Ext w w' := by
  have HC := Lib.hid hc
  have HF := Lib.hid hf
  have HK := Lib.hid hk
  clear hc hf hk
  have E0 := (Ext.refl w).alloc (.cells #[.string n, cv, fv, .int .i64 d] 31)
  go_enter Tryd.func23, Tryd.ntmps23
  go_wp2_with fail
  refine (impl_isRaw_any n _ _ d cs fs _ (HC.out.ext E0) (HF.out.ext E0) (by omega) (by omega)).mono ?_
  rintro e w1 ⟨rfl, F1⟩
  have E1 := E0.trans F1
  cases hr : smallCf cs fs
  · have HB := Lib.hid (show cdB n cs fs d k = false by rw [cdB, hr]; rfl)
    have HV := Lib.hid (show cdV n cs fs d k = false by rw [cdV, HB.out]; rfl)
    go_wp2
    go_ret2
    exact ⟨by rw [HB.out, HV.out]; rfl, E1⟩
  have HRR := Lib.hid hr
  clear hr
  cases hi : inR k 1 10
  · have HB := Lib.hid (show cdB n cs fs d k = false by rw [cdB, hi, Bool.and_false])
    have HV := Lib.hid (show cdV n cs fs d k = false by rw [cdV, HB.out]; rfl)
    have hn := inR_not.1 hi
    by_cases hk1 : k < 1
    all_goals (try (have hk2 : 10 < k := by omega))
    all_goals go_wp2
    all_goals
      go_ret2
      exact ⟨by rw [HB.out, HV.out]; rfl, E1⟩
  have hn := inR_iff.1 hi
  obtain ⟨j, rfl⟩ := Int.eq_ofNat_of_zero_le (show 0 ≤ k by omega)
  have HB := Lib.hid (show cdB n cs fs d (j : Int) = true by rw [cdB, hi, HRR.out]; rfl)
  have HV := Lib.hid (show cdV n cs fs d (j : Int) = condB n cs fs d j by rw [cdV, HB.out, Int.toNat_natCast]; rfl)
  obtain ⟨h1, h2⟩ := hn
  obtain ⟨q0, q1, q2, q3, q4⟩ := (Box.new w n cv fv d 31).ext F1
  clear hi
  go_wp2_with fail
  clear q0 q1 q2 q3 q4
  refine (impl_holds_any n _ _ d j cs fs _ (HK.out.ext E1) (HC.out.ext E1) (HF.out.ext E1) (by omega) (by omega) (by omega) (by omega)).mono ?_
  rintro e w2 ⟨rfl, F2⟩
  go_wp2
  go_ret2
  exact ⟨by rw [HB.out, HV.out]; rfl, E1.trans F2⟩
theorem spec_ConditionHolds_any (n : ByteArray) (cv fv : Value) (d k : Int) (cs : List Cls) (fs : List Flt) (w : World) (hk : Keys w) (hc : RdC w cv cs) (hf : RdF w fv fs) (hz : n.size + cs.length + fs.length ≤ 1048576) :
    Calls Tryd.prog 22 #[cfgV n cv fv d, .int .i64 k] w fun e w' => e = .returned (.tuple #[.bool (cdV n cs fs d k), .bool (cdB n cs fs d k)]) ∧ Ext w w' := by
  have HC := Lib.hid hc
  have HF := Lib.hid hf
  have HK := Lib.hid hk
  clear hc hf hk
  have E0 := (Ext.refl w).alloc (.cells #[.string n, cv, fv, .int .i64 d] 31)
  go_enter Tryd.func22, Tryd.ntmps22
  go_wp2_with fail
  refine (spec_vaAsked_any n _ _ d cs fs _ (HC.out.ext E0) (HF.out.ext E0) (by omega) (by omega)).mono ?_
  rintro e w1 ⟨rfl, F1⟩
  have E1 := E0.trans F1
  cases hr : smallCf cs fs
  · have HB := Lib.hid (show cdB n cs fs d k = false by rw [cdB, hr]; rfl)
    have HV := Lib.hid (show cdV n cs fs d k = false by rw [cdV, HB.out]; rfl)
    go_wp2
    go_ret2
    exact ⟨by rw [HB.out, HV.out]; rfl, E1⟩
  have HRR := Lib.hid hr
  clear hr
  cases hi : inR k 1 10
  · have HB := Lib.hid (show cdB n cs fs d k = false by rw [cdB, hi, Bool.and_false])
    have HV := Lib.hid (show cdV n cs fs d k = false by rw [cdV, HB.out]; rfl)
    have hn := inR_not.1 hi
    go_wp2_with (go_at_call 45; refine (spec_l1In_any _ _ _ _ ).mono ?_; rintro e w' ⟨rfl, rfl⟩)
    all_goals
      go_ret2
      exact ⟨by rw [HB.out, HV.out]; rfl, E1⟩
  have hn := inR_iff.1 hi
  obtain ⟨j, rfl⟩ := Int.eq_ofNat_of_zero_le (show 0 ≤ k by omega)
  have HB := Lib.hid (show cdB n cs fs d (j : Int) = true by rw [cdB, hi, HRR.out]; rfl)
  have HV := Lib.hid (show cdV n cs fs d (j : Int) = condB n cs fs d j by rw [cdV, HB.out, Int.toNat_natCast]; rfl)
  obtain ⟨h1, h2⟩ := hn
  obtain ⟨q0, q1, q2, q3, q4⟩ := (Box.new w n cv fv d 31).ext F1
  go_wp2_with (go_at_call 45; refine (spec_l1In_any _ _ _ _ ).mono ?_; rintro e w' ⟨rfl, rfl⟩)
  clear q0 q1 q2 q3 q4
  refine (spec_vaHolds_any n _ _ d j cs fs _ (HK.out.ext E1) (HC.out.ext E1) (HF.out.ext E1) (by omega) (by omega) (by omega) (by omega) (by omega)).mono ?_
  rintro e w2 ⟨rfl, F2⟩
  go_wp2
  go_ret2
  exact ⟨by rw [HB.out, HV.out]; rfl, E1.trans F2⟩
def bkQ (n : ByteArray) (cs : List Cls) (fs : List Flt) (d : Int) (k : Nat) : Bool := decide (0 < k) && !condB n cs fs d k
def brkV (n : ByteArray) (cs : List Cls) (fs : List Flt) (d : Int) : List Int := if smallCf cs fs then pick (bkQ n cs fs d) 11 else []
theorem brkV_len (n : ByteArray) (cs : List Cls) (fs : List Flt) (d : Int) : (brkV n cs fs d).length ≤ 2000000 := by
  unfold brkV
  split
  · have := pick_len (bkQ n cs fs d) 11
    omega
  · simp
theorem bkQ_one (n : ByteArray) (cs : List Cls) (fs : List Flt) (d : Int) : pick (bkQ n cs fs d) 1 = [] := by simp [pick, bkQ]
end Go.Proofs.YtfnnolgmhcfaiaaDoor
