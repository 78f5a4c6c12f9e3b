/- FindClass, SpareRate, TopOf, IsBelow: contracts of both sides. Printed by wip/tools/gen_qry.py. -/
import Derived.Test.YtfnnolgmhcfaiaaDoorGood
namespace Go.Proofs.YtfnnolgmhcfaiaaDoor
open Go.RowKit
set_option maxRecDepth 20000
set_option maxHeartbeats 1000000
set_option linter.unusedSimpArgs false
set_option linter.unusedVariables false

def hasB (n : ByteArray) (cs : List Cls) (fs : List Flt) (d i : Int) : Bool := goodB n cs fs d && inR i 0 ((cs.length : Int) - 1)
theorem has_parts {n : ByteArray} {cs : List Cls} {fs : List Flt} {d i : Int} (h : hasB n cs fs d i = true) : goodB n cs fs d = true ∧ ∃ j : Nat, i = j ∧ j < cs.length := by
  simp only [hasB, Bool.and_eq_true, inR_iff] at h
  obtain ⟨h1, h2, h3⟩ := h
  obtain ⟨j, rfl⟩ := Int.eq_ofNat_of_zero_le h2
  exact ⟨h1, j, rfl, by omega⟩
theorem impl_isClassOf_any (n : ByteArray) (cv fv : Value) (d i : Int) (cs : List Cls) (fs : List Flt) (w : World) (hk : Keys w) (hc : RdC w cv cs) (hf : RdF w fv fs) (hz : n.size + cs.length + fs.length ≤ 1048576) :
    Calls Tryd.prog 36 #[cfgV n cv fv d, .int .i64 i] w fun e w' => e = .returned (.bool (hasB n cs fs d i)) ∧ Ext w w' := by
  have HCC := Lib.hid hc
  obtain ⟨CA, cc, rfl, hcc, _⟩ := hc
  have hc := HCC.out
  have HC := Lib.hid hc
  have HF := Lib.hid hf
  have HK := Lib.hid hk
  clear hc hf hk
  have E0 := (Ext.refl w).alloc (.cells #[.string n, .slice CA cs.length cc, fv, .int .i64 d] 31)
  have B0 := Lib.hid (Box.new w n (.slice CA cs.length cc) fv d 31)
  go_enter Tryd.func36, Tryd.ntmps36
  go_wp2_with fail
  refine (impl_IsConfig_any n _ _ d cs fs _ (HK.out.ext E0) (HC.out.ext E0) (HF.out.ext E0) hz).mono ?_
  rintro e w1 ⟨rfl, F1⟩
  have E1 := E0.trans F1
  obtain ⟨q0, q1, q2, q3, q4⟩ := B0.out.ext F1
  cases hr : goodB n cs fs d
  · have HV := Lib.hid (show hasB n cs fs d i = false by rw [hasB, hr]; rfl)
    go_wp2
    go_ret
    exact ⟨by rw [HV.out]; rfl, E1⟩
  have HV := Lib.hid (show hasB n cs fs d i = inR i 0 ((cs.length : Int) - 1) by rw [hasB, hr]; rfl)
  by_cases h0 : 0 ≤ i
  · by_cases h1 : i < cs.length
    all_goals
      go_wp2
      go_ret
      exact ⟨by rw [HV.out]; simp [inR, h0]; omega, E1⟩
  · go_wp2
    go_ret
    exact ⟨by rw [HV.out]; simp [inR, h0]; try omega, E1⟩
theorem spec_cfHas_any (n : ByteArray) (cv fv : Value) (d i : Int) (cs : List Cls) (fs : List Flt) (w : World) (hk : Keys w) (hc : RdC w cv cs) (hf : RdF w fv fs) (hz : n.size + cs.length + fs.length ≤ 1048576) :
    Calls Tryd.prog 34 #[cfgV n cv fv d, .int .i64 i] w fun e w' => e = .returned (.bool (hasB n cs fs d i)) ∧ Ext w w' := by
  have HCC := Lib.hid hc
  obtain ⟨CA, cc, rfl, hcc, _⟩ := hc
  have hc := HCC.out
  have HC := Lib.hid hc
  have HF := Lib.hid hf
  have HK := Lib.hid hk
  clear hc hf hk
  have E0 := (Ext.refl w).alloc (.cells #[.string n, .slice CA cs.length cc, fv, .int .i64 d] 31)
  have B0 := Lib.hid (Box.new w n (.slice CA cs.length cc) fv d 31)
  go_enter Tryd.func34, Tryd.ntmps34
  go_wp2_with fail
  refine (spec_cfGood_any n _ _ d cs fs _ (HK.out.ext E0) (HC.out.ext E0) (HF.out.ext E0) hz).mono ?_
  rintro e w1 ⟨rfl, F1⟩
  have E1 := E0.trans F1
  obtain ⟨q0, q1, q2, q3, q4⟩ := B0.out.ext F1
  cases hr : goodB n cs fs d
  · have HV := Lib.hid (show hasB n cs fs d i = false by rw [hasB, hr]; rfl)
    go_wp2
    go_ret
    exact ⟨by rw [HV.out]; rfl, E1⟩
  have HV := Lib.hid (show hasB n cs fs d i = inR i 0 ((cs.length : Int) - 1) by rw [hasB, hr]; rfl)
  go_wp2_with fail
  refine (spec_l1In_any _ _ _ _).mono ?_
  rintro e w2 ⟨rfl, rfl⟩
  go_wp2
  go_ret
  exact ⟨by rw [HV.out]; rfl, E1⟩
def fcB (n : ByteArray) (cs : List Cls) (fs : List Flt) (d id : Int) : Bool := goodB n cs fs d && decide (0 ≤ findI cs id)
def fcV (n : ByteArray) (cs : List Cls) (fs : List Flt) (d id : Int) : Int := if fcB n cs fs d id then findI cs id else 0
theorem impl_FindClass_any (n : ByteArray) (cv fv : Value) (d id : Int) (cs : List Cls) (fs : List Flt) (w : World) (hk : Keys w) (hc : RdC w cv cs) (hf : RdF w fv fs) (hz : n.size + cs.length + fs.length ≤ 1048576) :
    Calls Tryd.prog 15 #[cfgV n cv fv d, .int .i64 id] w fun e w' => e = .returned (.tuple #[.int .i64 (fcV n cs fs d id), .bool (fcB n cs fs d id)]) ∧ Ext w w' := by
  have HC := Lib.hid hc
  have HF := Lib.hid hf
  have HK := Lib.hid hk
  clear hc hf hk
  have E0 := (Ext.refl w).alloc (.cells #[.string n, cv, fv, .int .i64 d] 31)
  have B0 := Lib.hid (Box.new w n cv fv d 31)
  go_enter Tryd.func15, Tryd.ntmps15
  go_wp2_with fail
  refine (impl_IsConfig_any n _ _ d cs fs _ (HK.out.ext E0) (HC.out.ext E0) (HF.out.ext E0) hz).mono ?_
  rintro e wg ⟨rfl, Fg⟩
  have Eg := E0.trans Fg
  cases hr : goodB n cs fs d
  · have HB := Lib.hid (show fcB n cs fs d id = false by rw [fcB, hr]; rfl)
    have HV := Lib.hid (show fcV n cs fs d id = 0 by rw [fcV, HB.out]; rfl)
    go_wp2
    go_ret2
    exact ⟨by rw [HB.out, HV.out]; rfl, Eg⟩
  have HRW := Lib.hid hr
  obtain ⟨q0, q1, q2, q3, q4⟩ := B0.out.ext Fg
  go_wp2_with fail
  clear q0 q1 q2 q3 q4
  refine (impl_indexOf_any n _ fv d id cs _ (HC.out.ext Eg) (by omega)).mono ?_
  rintro e w1 ⟨rfl, F1⟩
  have E1 := Eg.trans F1
  by_cases hneg : findI cs id < 0
  · have HB := Lib.hid (show fcB n cs fs d id = false by rw [fcB, HRW.out, decide_eq_false (by omega)]; rfl)
    have HV := Lib.hid (show fcV n cs fs d id = 0 by rw [fcV, HB.out]; rfl)
    go_wp2
    go_ret2
    exact ⟨by rw [HB.out, HV.out]; rfl, E1⟩
  have HB := Lib.hid (show fcB n cs fs d id = true by rw [fcB, HRW.out, decide_eq_true (by omega)]; rfl)
  have HV := Lib.hid (show fcV n cs fs d id = findI cs id by rw [fcV, HB.out]; rfl)
  go_wp2
  go_ret2
  exact ⟨by rw [HB.out, HV.out]; rfl, E1⟩
theorem spec_FindClass_any (n : ByteArray) (cv fv : Value) (d id : Int) (cs : List Cls) (fs : List Flt) (w : World) (hk : Keys w) (hc : RdC w cv cs) (hf : RdF w fv fs) (hz : n.size + cs.length + fs.length ≤ 1048576) :
    Calls Tryd.prog 14 #[cfgV n cv fv d, .int .i64 id] w fun e w' => e = .returned (.tuple #[.int .i64 (fcV n cs fs d id), .bool (fcB n cs fs d id)]) ∧ Ext w w' := by
  have HC := Lib.hid hc
  have HF := Lib.hid hf
  have HK := Lib.hid hk
  clear hc hf hk
  have E0 := (Ext.refl w).alloc (.cells #[.string n, cv, fv, .int .i64 d] 31)
  have B0 := Lib.hid (Box.new w n cv fv d 31)
  go_enter Tryd.func14, Tryd.ntmps14
  go_wp2_with fail
  refine (spec_cfGood_any n _ _ d cs fs _ (HK.out.ext E0) (HC.out.ext E0) (HF.out.ext E0) hz).mono ?_
  rintro e wg ⟨rfl, Fg⟩
  have Eg := E0.trans Fg
  cases hr : goodB n cs fs d
  · have HB := Lib.hid (show fcB n cs fs d id = false by rw [fcB, hr]; rfl)
    have HV := Lib.hid (show fcV n cs fs d id = 0 by rw [fcV, HB.out]; rfl)
    go_wp2
    go_ret2
    exact ⟨by rw [HB.out, HV.out]; rfl, Eg⟩
  have HRW := Lib.hid hr
  obtain ⟨q0, q1, q2, q3, q4⟩ := B0.out.ext Fg
  go_wp2_with fail
  clear q0 q1 q2 q3 q4
  refine (spec_cfFind_any n _ fv d id cs _ (HC.out.ext Eg) (by omega)).mono ?_
  rintro e w1 ⟨rfl, F1⟩
  have E1 := Eg.trans F1
  by_cases hneg : findI cs id < 0
  · have HB := Lib.hid (show fcB n cs fs d id = false by rw [fcB, HRW.out, decide_eq_false (by omega)]; rfl)
    have HV := Lib.hid (show fcV n cs fs d id = 0 by rw [fcV, HB.out]; rfl)
    go_wp2
    go_ret2
    exact ⟨by rw [HB.out, HV.out]; rfl, E1⟩
  have HB := Lib.hid (show fcB n cs fs d id = true by rw [fcB, HRW.out, decide_eq_true (by omega)]; rfl)
  have HV := Lib.hid (show fcV n cs fs d id = findI cs id by rw [fcV, HB.out]; rfl)
  obtain ⟨q0, q1, q2, q3, q4⟩ := B0.out.ext (Fg.trans F1)
  go_wp2_with fail
  clear q0 q1 q2 q3 q4
  refine (spec_cfFind_any n _ fv d id cs _ (HC.out.ext E1) (by omega)).mono ?_
  rintro e w2 ⟨rfl, F2⟩
  go_wp2
  go_ret2
  exact ⟨by rw [HB.out, HV.out]; rfl, E1.trans F2⟩
def srV (n : ByteArray) (cs : List Cls) (fs : List Flt) (d i : Int) : Int := if hasB n cs fs d i then rateAt cs i.toNat - kidR cs i.toNat else 0
theorem spec_SpareRate_any (n : ByteArray) (cv fv : Value) (d i : Int) (cs : List Cls) (fs : List Flt) (w : World) (hk : Keys w) (hc : RdC w cv cs) (hf : RdF w fv fs) (hz : n.size + cs.length + fs.length ≤ 1048576) :
    Calls Tryd.prog 16 #[cfgV n cv fv d, .int .i64 i] w fun e w' => e = .returned (.tuple #[.int .i64 (srV n cs fs d i), .bool (hasB n cs fs d i)]) ∧ Ext w w' := by
  have HC := Lib.hid hc
  have HF := Lib.hid hf
  have HK := Lib.hid hk
  clear hc hf hk
  have E0 := (Ext.refl w).alloc (.cells #[.string n, cv, fv, .int .i64 d] 31)
  have B0 := Lib.hid (Box.new w n cv fv d 31)
  go_enter Tryd.func16, Tryd.ntmps16
  go_wp2_with fail
  refine (spec_cfHas_any n _ _ d i cs fs _ (HK.out.ext E0) (HC.out.ext E0) (HF.out.ext E0) hz).mono ?_
  rintro e wg ⟨rfl, Fg⟩
  have Eg := E0.trans Fg
  cases hr : hasB n cs fs d i
  · have HV := Lib.hid (show srV n cs fs d i = 0 by rw [srV, hr]; rfl)
    go_wp2
    go_ret2
    exact ⟨by rw [HV.out, hr]; rfl, Eg⟩
  have HRW := Lib.hid hr
  clear hr
  obtain ⟨hg, j, rfl, hi⟩ := has_parts HRW.out
  have HRO := Lib.hid (good_rates hg)
  have HG := Lib.hid hg
  clear hg
  have HV := Lib.hid (show srV n cs fs d (j : Int) = rateAt cs j - kidR cs j by rw [srV, HRW.out, Int.toNat_natCast]; rfl)
  obtain ⟨q0, q1, q2, q3, q4⟩ := B0.out.ext Fg
  go_wp2_with fail
  clear q0 q1 q2 q3 q4
  refine (spec_cfSpare_any n _ fv d j cs _ (HC.out.ext Eg) hi (by omega) HRO.out).mono ?_
  rintro e w1 ⟨rfl, F1⟩
  go_wp2
  go_ret2
  exact ⟨by rw [HV.out, HRW.out]; rfl, Eg.trans F1⟩
theorem impl_SpareRate_any (n : ByteArray) (cv fv : Value) (d i : Int) (cs : List Cls) (fs : List Flt) (w : World) (hk : Keys w) (hc : RdC w cv cs) (hf : RdF w fv fs) (hz : n.size + cs.length + fs.length ≤ 1048576) :
    Calls Tryd.prog 17 #[cfgV n cv fv d, .int .i64 i] w fun e w' => e = .returned (.tuple #[.int .i64 (srV n cs fs d i), .bool (hasB n cs fs d i)]) ∧ Ext w w' := by
  have hcs := hc
  obtain ⟨CA, cc, rfl, hcc, hrc⟩ := hcs
  have HR := Lib.hid hrc
  clear hrc
  have HC := Lib.hid hc
  have HF := Lib.hid hf
  have HK := Lib.hid hk
  clear hc hf hk
  have E0 := (Ext.refl w).alloc (.cells #[.string n, .slice CA cs.length cc, fv, .int .i64 d] 31)
  have B0 := Lib.hid (Box.new w n (.slice CA cs.length cc) fv d 31)
  go_enter Tryd.func17, Tryd.ntmps17
  go_wp2_with fail
  refine (impl_isClassOf_any n _ _ d i cs fs _ (HK.out.ext E0) (HC.out.ext E0) (HF.out.ext E0) hz).mono ?_
  rintro e wg ⟨rfl, Fg⟩
  have Eg := E0.trans Fg
  cases hr : hasB n cs fs d i
  · have HV := Lib.hid (show srV n cs fs d i = 0 by rw [srV, hr]; rfl)
    go_wp2
    go_ret2
    exact ⟨by rw [HV.out, hr]; rfl, Eg⟩
  have HRW := Lib.hid hr
  clear hr
  obtain ⟨hg, j, rfl, hi⟩ := has_parts HRW.out
  have HRO := Lib.hid (good_rates hg)
  have HG := Lib.hid hg
  clear hg
  have HV := Lib.hid (show srV n cs fs d (j : Int) = rateAt cs j - kidR cs j by rw [srV, HRW.out, Int.toNat_natCast]; rfl)
  have HRI := Lib.hid (rateAt_is cs j hi)
  obtain ⟨bi, oi, hAi, hbi, hci⟩ := HR.out j cs[j] (List.getElem?_eq_getElem hi)
  subst hAi
  have c2 : wg.cell? ⟨bi, oi + j * 8 + 2, none⟩ = some (.int .i64 (rateAt cs j)) := by rw [HRI.out, Ext.cell Eg hbi]; exact hci 2 _ rfl
  clear hci
  obtain ⟨q0, q1, q2, q3, q4⟩ := B0.out.ext Fg
  go_wp2_with fail
  clear q0 q1 q2 q3 q4 c2
  refine (impl_childrenOf_any n _ fv d j cs _ (HC.out.ext Eg) hi (by omega)).mono ?_
  rintro e w1 ⟨u1, rfl, O1, F1⟩
  have X1 := Fg.trans F1
  have HKL := Lib.hid (show kidR cs j = sumK cs (kidL cs j) (kidL cs j).length from rfl)
  have HKG := Lib.hid (kidL_get cs j)
  have hkl := kidL_len cs j
  obtain ⟨A1, k1, rfl, _, hr1⟩ := Own.rd O1 icell_len
  have HR1 := Lib.hid hr1
  clear O1 hr1
  generalize kidL cs j = l at *
  go_wp2
  go_loopw [23, 6] (fun t s wr => ∃ k : Nat, k ≤ l.length ∧ t = .int .i64 (k : Int) ∧ s = .int .i64 (rateAt cs j - sumK cs l k) ∧ Ext w1 wr) (fun t _ _ => l.length - (intOf t).toNat)
  case atStart => exact ⟨0, Nat.zero_le _, rfl, by simp [sumK, HRI.out], Ext.refl _⟩
  case round =>
    obtain ⟨k, hk, rfl, rfl, hx⟩ := hrel
    by_cases hlt : k < l.length
    · obtain ⟨b1, o1, rfl, hb1, hcw⟩ := HR1.out k l[k] (List.getElem?_eq_getElem hlt)
      obtain ⟨m, hm, hml⟩ := HKG.out k hlt
      have c0 : wr.cell? ⟨b1, o1 + k, none⟩ = some (.int .i64 (m : Int)) := by rw [Ext.cell hx hb1, ← hm]; simpa using hcw 0 _ rfl
      have hsk : sumK cs l (k + 1) = sumK cs l k + cs[m].rate := by
        rw [sumK, List.getD_eq_getElem?_getD, List.getElem?_eq_getElem hlt, Option.getD_some, hm]
        exact congrArg _ (rateAt_is cs m hml)
      have hrt := HRO.out m
      rw [rateAt_is cs m hml] at hrt
      obtain ⟨b, o, hAA, hb, hcell⟩ := HR.out m cs[m] (List.getElem?_eq_getElem hml)
      simp only [Option.some.injEq, Addr.mk.injEq, and_true] at hAA
      obtain ⟨rfl, rfl⟩ := hAA
      generalize cs[m] = x at hcell hsk hrt
      have hxw := E0.trans (X1.trans hx)
      have c1 : wr.cell? ⟨bi, oi + m * 8 + 2, none⟩ = some (.int .i64 x.rate) := by rw [Ext.cell hxw hb]; exact hcell 2 _ rfl
      have HSK := Lib.hid hsk
      obtain ⟨h0, h1⟩ := hrt
      have h2 := (sumK_bd HRO.out l k).1
      have h3 : sumK cs l k ≤ 1048576000000000 := by have := (sumK_bd HRO.out l k).2; omega
      have h4 := (HRO.out j).1
      have h5 := (HRO.out j).2
      generalize rateAt cs j = ri at *
      obtain ⟨q0, q1, q2, q3, q4⟩ := B0.out.ext (X1.trans hx)
      clear hcw hcell hsk hm
      generalize sumK cs l k = S at *
      go_wp2
      go_roundw
      case rel => exact ⟨k + 1, by omega, by go_num, by rw [HSK.out]; first | done | go_num | (congr 1; omega), hx⟩
      case measure => simp [intOf]; omega
    · obtain rfl : k = l.length := by omega
      go_wp2
      go_ret2
      exact ⟨by rw [HV.out, HKL.out, HRW.out]; rfl, E0.trans (X1.trans hx)⟩
def topC (x : Cls) : Bool := x.parent == 0
def toV (n : ByteArray) (cs : List Cls) (fs : List Flt) (d : Int) : Int := if goodB n cs fs d then idxC cs topC else 0
theorem topC_is (cs : List Cls) (k : Nat) (h : k < cs.length) : topP cs k = clsAt cs k topC := by rw [topP, parAt_is cs k h, clsAt_is cs k topC h]; rfl
theorem good_top {n : ByteArray} {cs : List Cls} {fs : List Flt} {d : Int} (h : goodB n cs fs d = true) : ∃ u : Nat, idxC cs topC = u ∧ u < cs.length ∧ topP cs u = true ∧ ∀ j, j < u → topP cs j = false := by
  have h3 := good_cond h 3 (by omega) (by omega)
  simp only [condB, parB, Bool.and_eq_true, beq_iff_eq] at h3
  have hb := fndN_bd (fun k => clsAt cs k topC) cs.length 0
  have hs := fndN_spec (fun k => clsAt cs k topC) cs.length 0
  rcases hb with h1 | ⟨h1, h2⟩
  · have h4 : pick (topP cs) cs.length = [] := (pick_nil _ _).2 fun j hj => by rw [topC_is cs j hj]; exact hs.1 h1 j (by omega) (by omega)
    have h5 := h3.1
    unfold topsN at h5
    rw [h4] at h5
    simp at h5
  · obtain ⟨u, hu⟩ := Int.eq_ofNat_of_zero_le (show 0 ≤ fndN (fun k => clsAt cs k topC) 0 cs.length by omega)
    have h4 : u < cs.length := by omega
    refine ⟨u, hu, h4, ?_, fun j hj => ?_⟩
    · rw [topC_is cs u h4]; exact (hs.2 u hu).1
    · rw [topC_is cs j (by omega)]; exact (hs.2 u hu).2 j (by omega) hj
theorem topOf1_any (x : Cls) (w : World) :
    Calls Tryd.prog 73 #[clsV x] w fun e w' => e = .returned (.bool (topC x)) ∧ Ext w w' := by
  go_enter Tryd.func73, Tryd.ntmps73
  go_wp2
  go_ret
  exact ⟨rfl, (Ext.refl _).alloc _⟩
theorem impl_topOf_any (n : ByteArray) (cv fv : Value) (d : Int) (cs : List Cls) (w : World) (hc : RdC w cv cs) (hcl : cs.length ≤ 1048576) :
    Calls Tryd.prog 39 #[cfgV n cv fv d] w fun e w' => e = .returned (.int .i64 (idxC cs topC)) ∧ Ext w w' := by
  have HC := Lib.hid hc
  clear hc
  have E0 := (Ext.refl w).alloc (.cells #[.string n, cv, fv, .int .i64 d] 31)
  go_enter Tryd.func39, Tryd.ntmps39
  go_wp2_with fail
  refine (impl_topOf_1_index topC _ cs _ (HC.out.ext E0) hcl (fun x w' hx => topOf1_any x w')).mono ?_
  rintro e w1 ⟨rfl, F1⟩
  go_wp2
  go_ret
  exact ⟨rfl, E0.trans F1⟩
theorem spec_cfTop_any (n : ByteArray) (cv fv : Value) (d : Int) (cs : List Cls) (fs : List Flt) (w : World) (hc : RdC w cv cs) (hg : goodB n cs fs d = true) :
    Calls Tryd.prog 38 #[cfgV n cv fv d] w fun e w' => e = .returned (.int .i64 (idxC cs topC)) ∧ Ext w w' := by
  obtain ⟨CA, cc, rfl, hcc, hrc⟩ := hc
  have HR := Lib.hid hrc
  clear hrc
  obtain ⟨u, hu, hul, hut, huf⟩ := good_top hg
  have hl := (good_len hg).2.1
  have HU := Lib.hid (And.intro hu (And.intro hut huf))
  clear hu hut huf hg
  have E0 := (Ext.refl w).alloc (.cells #[.string n, .slice CA cs.length cc, fv, .int .i64 d] 31)
  go_enter Tryd.func38, Tryd.ntmps38
  go_wp2
  go_loopw [3] (fun t wr => ∃ k : Nat, k ≤ u ∧ t = .int .i64 (k : Int) ∧ Ext (w.alloc (.cells #[.string n, .slice CA cs.length cc, fv, .int .i64 d] 31)) wr) (fun t _ => cs.length - (intOf t).toNat)
  case atStart => exact ⟨0, Nat.zero_le _, rfl, Ext.refl _⟩
  case round =>
    obtain ⟨k, hk, rfl, hx⟩ := hrel
    have hxw := E0.trans hx
    have hlt : k < cs.length := by omega
    obtain ⟨b, o, hCA, hb, hcell⟩ := HR.out k cs[k] (List.getElem?_eq_getElem hlt)
    have HPA := Lib.hid (parAt_is cs k hlt)
    generalize cs[k] = x at hcell HPA
    subst hCA
    have c1 : wr.cell? ⟨b, o + k * 8 + 1, none⟩ = some (.int .i64 x.parent) := by rw [Ext.cell hxw hb]; exact hcell 1 _ rfl
    clear hcell
    obtain ⟨q0, q1, q2, q3, q4⟩ := (Box.new w n (.slice (some ⟨b, o, none⟩) cs.length cc) fv d 31).ext hx
    by_cases hku : k = u
    · subst hku
      have hp : x.parent = 0 := by have := HU.out.2.1; rw [topP, HPA.out] at this; simpa using this
      go_wp2
      go_ret
      exact ⟨by rw [HU.out.1]; rfl, hxw⟩
    · have hp : x.parent ≠ 0 := by have := HU.out.2.2 k (by omega); rw [topP, HPA.out] at this; simpa using this
      have hp' : (x.parent != 0) = true := by simp [hp]
      go_wp2
      go_roundw
      case rel => exact ⟨k + 1, by omega, by go_num, hx⟩
      case measure => simp [intOf]; omega
theorem impl_TopOf_any (n : ByteArray) (cv fv : Value) (d : Int) (cs : List Cls) (fs : List Flt) (w : World) (hk : Keys w) (hc : RdC w cv cs) (hf : RdF w fv fs) (hz : n.size + cs.length + fs.length ≤ 1048576) :
    Calls Tryd.prog 19 #[cfgV n cv fv d] w fun e w' => e = .returned (.tuple #[.int .i64 (toV n cs fs d), .bool (goodB n cs fs d)]) ∧ Ext w w' := by
  have HC := Lib.hid hc
  have HF := Lib.hid hf
  have HK := Lib.hid hk
  clear hc hf hk
  have E0 := (Ext.refl w).alloc (.cells #[.string n, cv, fv, .int .i64 d] 31)
  have B0 := Lib.hid (Box.new w n cv fv d 31)
  go_enter Tryd.func19, Tryd.ntmps19
  go_wp2_with fail
  refine (impl_IsConfig_any n _ _ d cs fs _ (HK.out.ext E0) (HC.out.ext E0) (HF.out.ext E0) hz).mono ?_
  rintro e wg ⟨rfl, Fg⟩
  have Eg := E0.trans Fg
  cases hr : goodB n cs fs d
  · have HV := Lib.hid (show toV n cs fs d = 0 by rw [toV, hr]; rfl)
    go_wp2
    go_ret2
    exact ⟨by rw [HV.out, hr]; rfl, Eg⟩
  have HRW := Lib.hid hr
  have HV := Lib.hid (show toV n cs fs d = idxC cs topC by rw [toV, hr]; rfl)
  clear hr
  obtain ⟨q0, q1, q2, q3, q4⟩ := B0.out.ext Fg
  go_wp2_with fail
  clear q0 q1 q2 q3 q4
  refine (impl_topOf_any n _ _ d cs _ (HC.out.ext Eg) (by omega)).mono ?_
  rintro e w1 ⟨rfl, F1⟩
  go_wp2
  go_ret2
  exact ⟨by rw [HV.out, HRW.out]; rfl, Eg.trans F1⟩
theorem spec_TopOf_any (n : ByteArray) (cv fv : Value) (d : Int) (cs : List Cls) (fs : List Flt) (w : World) (hk : Keys w) (hc : RdC w cv cs) (hf : RdF w fv fs) (hz : n.size + cs.length + fs.length ≤ 1048576) :
    Calls Tryd.prog 18 #[cfgV n cv fv d] w fun e w' => e = .returned (.tuple #[.int .i64 (toV n cs fs d), .bool (goodB n cs fs d)]) ∧ Ext w w' := by
  have HC := Lib.hid hc
  have HF := Lib.hid hf
  have HK := Lib.hid hk
  clear hc hf hk
  have E0 := (Ext.refl w).alloc (.cells #[.string n, cv, fv, .int .i64 d] 31)
  have B0 := Lib.hid (Box.new w n cv fv d 31)
  go_enter Tryd.func18, Tryd.ntmps18
  go_wp2_with fail
  refine (spec_cfGood_any n _ _ d cs fs _ (HK.out.ext E0) (HC.out.ext E0) (HF.out.ext E0) hz).mono ?_
  rintro e wg ⟨rfl, Fg⟩
  have Eg := E0.trans Fg
  cases hr : goodB n cs fs d
  · have HV := Lib.hid (show toV n cs fs d = 0 by rw [toV, hr]; rfl)
    go_wp2
    go_ret2
    exact ⟨by rw [HV.out, hr]; rfl, Eg⟩
  have HRW := Lib.hid hr
  have HV := Lib.hid (show toV n cs fs d = idxC cs topC by rw [toV, hr]; rfl)
  clear hr
  obtain ⟨q0, q1, q2, q3, q4⟩ := B0.out.ext Fg
  go_wp2_with fail
  clear q0 q1 q2 q3 q4
  refine (spec_cfTop_any n _ _ d cs fs _ (HC.out.ext Eg) HRW.out).mono ?_
  rintro e w1 ⟨rfl, F1⟩
  go_wp2
  go_ret2
  exact ⟨by rw [HV.out, HRW.out]; rfl, Eg.trans F1⟩
theorem good_deep {n : ByteArray} {cs : List Cls} {fs : List Flt} {d : Int} (h : goodB n cs fs d = true) (k : Nat) (hk : k < cs.length) : deepP cs k = false := by
  have h4 := good_cond h 4 (by omega) (by omega)
  have := noN_at (show noN (wayBad cs) cs.length = true from h4) hk
  simp only [wayBad, Bool.or_eq_false_iff] at this
  exact this.1
theorem good_zero {n : ByteArray} {cs : List Cls} {fs : List Flt} {d : Int} (h : goodB n cs fs d = true) : findI cs 0 = -1 := by
  have h2 := good_cond h 2 (by omega) (by omega)
  simp only [condB, idsB, Bool.and_eq_true] at h2
  rcases findI_bd cs 0 with h1 | ⟨u, h1, hu⟩
  · exact h1
  · have h3 := ((fndN_spec (fun k => clsAt cs k fun x => x.id == 0) cs.length 0).2 u h1).1
    rw [clsAt_is cs u _ hu] at h3
    have h4 := noN_at h2.1 hu
    simp only [idBad, Bool.or_eq_false_iff, idAt_is cs u hu] at h4
    have h5 : cs[u].id = 0 := by simpa using h3
    rw [h5] at h4
    have h6 : (!inR 0 1 999) = false := h4.1
    cases h6
/-- In a valid configuration the way goes on just where the parent is not 0. -/
theorem good_next {n : ByteArray} {cs : List Cls} {fs : List Flt} {d : Int} (h : goodB n cs fs d = true) (u : Nat) (hu : u < cs.length) : (parAt cs u = 0 → findI cs (parAt cs u) = -1) ∧ (parAt cs u ≠ 0 → 0 ≤ findI cs (parAt cs u)) := by
  refine ⟨fun h0 => by rw [h0]; exact good_zero h, fun h0 => ?_⟩
  have h3 := good_cond h 3 (by omega) (by omega)
  simp only [condB, parB, Bool.and_eq_true] at h3
  have h4 := noN_at h3.2 hu
  rw [show bpP cs u = (parAt cs u != 0 && decide (findI cs (parAt cs u) < 0)) by rw [parAt_is cs u hu]; exact clsAt_is cs u _ hu, show (parAt cs u != 0) = true by simp [h0]] at h4
  have : ¬ findI cs (parAt cs u) < 0 := by simpa using h4
  omega
theorem impl_wayUp_any (n : ByteArray) (cv fv : Value) (d : Int) (i : Nat) (cs : List Cls) (fs : List Flt) (w : World) (hc : RdC w cv cs) (hi : i < cs.length) (hg : goodB n cs fs d = true) :
    Calls Tryd.prog 43 #[cfgV n cv fv d, .int .i64 (i : Int)] w fun e w' => ∃ u, e = .returned u ∧ OwnI w' w.heap.size 3 u (wayL (upF cs) i (upN (upF cs) i)) ∧ Ext w w' := by
  have HC := Lib.hid hc
  obtain ⟨CA, cc, rfl, hcc, hrc⟩ := hc
  have HR := Lib.hid hrc
  clear hrc
  have hl := (good_len hg).2.1
  have HNX := Lib.hid (good_next hg)
  obtain ⟨hu9, hu0, hup, hue⟩ := upN_spec (upF cs) i
  have hu8 := (up_way hi).2 (good_deep hg i hi)
  have HUP := Lib.hid hup
  have HUE := Lib.hid (hue (by omega))
  clear hup hue hg
  have D0 := (Ext.refl (w.alloc (.cells #[.string n, .slice CA cs.length cc, fv, .int .i64 d] 31))).alloc (.cells #[.int .i64 (i : Int)] 3)
  have HST := Lib.hid (show OwnI ((w.alloc (.cells #[.string n, .slice CA cs.length cc, fv, .int .i64 d] 31)).alloc (.cells #[.int .i64 (i : Int)] 3)) (w.heap.size + 1) 3 (.slice (some ⟨w.heap.size + 1, 0, none⟩) 1 1) [(i : Int)] by
    have := World.ownsRow_lit (base := w.heap.size + 1) (e := 3) (size := 1) (w.alloc (.cells #[.string n, .slice CA cs.length cc, fv, .int .i64 d] 31)) #[.int .i64 (i : Int)] 1 (by simp) (by unfold maxLen; omega) rfl
    unfold OwnI Own
    simpa [icell] using this)
  go_enter Tryd.func43, Tryd.ntmps43
  go_wp2
  go_loopw [1, 5] (fun t s wr => ∃ m : Nat, m < upN (upF cs) i ∧ t = .int .i64 (itU (upF cs) i m) ∧ Hid (OwnI wr (w.heap.size + 1) 3 s (wayL (upF cs) i (m + 1))) ∧ Ext (w.alloc (.cells #[.string n, .slice CA cs.length cc, fv, .int .i64 d] 31)) wr) (fun _ s _ => 10 - lenV s)
  case atStart => exact ⟨0, hu0, rfl, HST.out, D0⟩
  case round =>
    obtain ⟨m, hm, rfl, hq, hx⟩ := hrel
    have hxw := Ext.trans ((Ext.refl w).alloc (.cells #[.string n, .slice CA cs.length cc, fv, .int .i64 d] 31)) hx
    have HLS := Lib.hid (own_lenV hq.out icell_len)
    obtain ⟨u, hu⟩ := Int.eq_ofNat_of_zero_le (HUP.out m hm)
    have hul : u < cs.length := by have := itU_bd (upF_bd cs) hi m; omega
    have HU := Lib.hid hu
    have HNU := Lib.hid (HNX.out u hul)
    rw [hu]
    clear hu
    obtain ⟨b, o, hCA, hb, hcell⟩ := HR.out u cs[u] (List.getElem?_eq_getElem hul)
    have HPA := Lib.hid (parAt_is cs u hul)
    generalize cs[u] = x at hcell HPA
    subst hCA
    have c1 : wr.cell? ⟨b, o + u * 8 + 1, none⟩ = some (.int .i64 x.parent) := by rw [Ext.cell hxw hb]; exact hcell 1 _ rfl
    clear hcell
    have z0 : b < wr.heap.size := Ext.lts hxw _ hb
    obtain ⟨q0, q1, q2, q3, q4⟩ := (Box.new w n (.slice (some ⟨b, o, none⟩) cs.length cc) fv d 31).ext hx
    by_cases hp : x.parent = 0
    · have HE := Lib.hid (show upN (upF cs) i = m + 1 by
        have h1 := HNU.out.1 (by rw [HPA.out, hp])
        have h2 := itU_up HU.out
        rw [h1] at h2
        rcases Nat.lt_or_ge (m + 1) (upN (upF cs) i) with h3 | h3
        · have := HUP.out (m + 1) h3
          omega
        · omega)
      go_wp2
      go_ret
      exact ⟨_, rfl, by rw [HE.out]; exact Own.mono hq.out (by omega), hxw⟩
    · have hp' : (x.parent != 0) = true := by simp [hp]
      have HF := Lib.hid (show itU (upF cs) i (m + 1) = findI cs x.parent by rw [itU_up HU.out, HPA.out])
      have HM := Lib.hid (show m + 1 < upN (upF cs) i by
        have h1 := HNU.out.2 (by rw [HPA.out]; exact hp)
        rw [HPA.out, ← HF.out] at h1
        rcases Nat.lt_or_ge (m + 1) (upN (upF cs) i) with h3 | h3
        · exact h3
        · have h4 : upN (upF cs) i = m + 1 := by omega
          have h5 := HUE.out
          rw [h4] at h5
          omega)
      go_wp2_with fail
      (go_wp2_with fail; refine wp_region_ext (by kernel_rfl) (by kernel_rfl) ?_; (repeat (first | go_big_quiet_step ((first | (go_at_call 33; exact calls_later (impl_indexOf_any _ _ _ _ _ _ _ (HC.out.ext (hxw.trans (Later.ext _))) (by omega))))) | quiet_step ((first | (go_at_call 33; exact calls_later (impl_indexOf_any _ _ _ _ _ _ _ (HC.out.ext (hxw.trans (Later.ext _))) (by omega))))))); refine wpQuiet_nil ?_; intro wq hbq; have hcq := Ext.cells hbq; have hzq := Ext.frozens hbq; have hsq := Ext.lts hbq)
      clear q0 q1 q2 q3 q4 c1 hcq hzq hsq
      go_wp2_with (at_builtin; refine app_intB (by simp) (Own.ext hq.out hbq) (by rw [wayL_len]; omega) (hx.trans hbq) rfl rfl rfl rfl ?_; intro v2 w2 hown2 D2)
      have HO2 := Lib.hid hown2
      have HL2 := Lib.hid (own_lenV hown2 icell_len)
      clear hown2
      go_wp2
      go_roundw
      case rel => exact ⟨m + 1, HM.out, by rw [HF.out], by rw [wayL_succ, HF.out]; exact HO2.out, D2⟩
      case measure =>
        have h1 := HL2.out
        have h2 := HLS.out
        have h3 := HM.out
        rw [List.length_append, wayL_len, List.length_singleton] at h1
        rw [wayL_len] at h2
        rw [h1, h2]
        omega
theorem spec_l1Has_any (v : Value) (l : List Int) (x : Int) (w : World) (h : RdI w v l) (hl : l.length ≤ 2000000) :
    Calls Tryd.prog 40 #[v, .int .i64 x] w fun e w' => e = .returned (.bool (hasI l x)) ∧ Ext w w' := by
  obtain ⟨A, c, rfl, hc, hrd⟩ := h
  have HR := Lib.hid hrd
  clear hrd
  go_enter Tryd.func40, Tryd.ntmps40
  go_wp2
  go_loopw [9] (fun t wr => ∃ k : Nat, k ≤ l.length ∧ t = .int .i64 (k : Int) ∧ Hid (idxL l x = fndN (eqAt l x) k (l.length - k)) ∧ Ext w wr) (fun t _ => l.length - (intOf t).toNat)
  case atStart => exact ⟨0, Nat.zero_le _, rfl, rfl, Ext.refl _⟩
  case round =>
    obtain ⟨k, hk, rfl, hq, hx⟩ := hrel
    by_cases hlt : k < l.length
    · obtain ⟨b, o, rfl, hb, hcell⟩ := HR.out k l[k] (List.getElem?_eq_getElem hlt)
      have hst := fndN_step (eqAt l x) k l.length hlt
      rw [eqAt_is l x k hlt] at hst
      generalize l[k] = y at hcell hst
      have HST := Lib.hid hst
      have c0 : wr.cell? ⟨b, o + k, none⟩ = some (.int .i64 y) := by rw [Ext.cell hx hb]; simpa using hcell 0 _ rfl
      clear hcell hst
      cases he : (y == x)
      · have HE := Lib.hid (show (x == y) = false by rw [← he]; exact BEq.comm)
        go_wp2
        go_roundw
        case rel => exact ⟨k + 1, by omega, by go_num, by have := hq.out; rw [HST.out, HE.out] at this; exact this, hx⟩
        case measure => simp [intOf]; omega
      · have HE := Lib.hid (show (x == y) = true by rw [← he]; exact BEq.comm)
        have HV := Lib.hid (show hasI l x = true by have := hq.out; rw [HST.out, HE.out] at this; rw [hasI, this]; exact decide_eq_true (Int.natCast_nonneg k))
        go_wp2
        go_ret
        exact ⟨by rw [HV.out]; rfl, hx⟩
    · obtain rfl : k = l.length := by omega
      have HV := Lib.hid (show hasI l x = false by have := hq.out; rw [Nat.sub_self] at this; rw [hasI, this]; rfl)
      go_wp2
      go_ret
      exact ⟨by rw [HV.out]; rfl, hx⟩
def belB (n : ByteArray) (cs : List Cls) (fs : List Flt) (d i k : Int) : Bool := hasB n cs fs d i && inR k 0 ((cs.length : Int) - 1)
def belV (n : ByteArray) (cs : List Cls) (fs : List Flt) (d i k : Int) : Bool := belB n cs fs d i k && hasI (wayL (upF cs) i.toNat (upN (upF cs) i.toNat)) k
theorem impl_IsBelow_any (n : ByteArray) (cv fv : Value) (d i k : Int) (cs : List Cls) (fs : List Flt) (w : World) (hk : Keys w) (hc : RdC w cv cs) (hf : RdF w fv fs) (hz : n.size + cs.length + fs.length ≤ 1048576) :
    Calls Tryd.prog 21 #[cfgV n cv fv d, .int .i64 i, .int .i64 k] w fun e w' => e = .returned (.tuple #[.bool (belV n cs fs d i k), .bool (belB n cs fs d i k)]) ∧ Ext w w' := by
  have hcs := hc
  obtain ⟨CA, cc, rfl, hcc, _⟩ := hcs
  have HC := Lib.hid hc
  have HF := Lib.hid hf
  have HK := Lib.hid hk
  clear hc hf hk
  have E0 := (Ext.refl w).alloc (.cells #[.string n, .slice CA cs.length cc, fv, .int .i64 d] 31)
  have B0 := Lib.hid (Box.new w n (.slice CA cs.length cc) fv d 31)
  go_enter Tryd.func21, Tryd.ntmps21
  go_wp2_with fail
  refine (impl_isClassOf_any n _ _ d i cs fs _ (HK.out.ext E0) (HC.out.ext E0) (HF.out.ext E0) hz).mono ?_
  rintro e wg ⟨rfl, Fg⟩
  have Eg := E0.trans Fg
  cases hr : hasB n cs fs d i
  · have HB := Lib.hid (show belB n cs fs d i k = false by rw [belB, hr]; rfl)
    have HV := Lib.hid (show belV n cs fs d i k = false by rw [belV, HB.out]; rfl)
    go_wp2
    go_ret2
    exact ⟨by rw [HB.out, HV.out]; rfl, Eg⟩
  have HRW := Lib.hid hr
  obtain ⟨q0, q1, q2, q3, q4⟩ := B0.out.ext Fg
  cases hin : inR k 0 ((cs.length : Int) - 1)
  · have HB := Lib.hid (show belB n cs fs d i k = false by rw [belB, hin, Bool.and_false])
    have HV := Lib.hid (show belV n cs fs d i k = false by rw [belV, HB.out]; rfl)
    have hn := inR_not.1 hin
    clear hin
    by_cases hk0 : k < 0
    · go_wp2
      go_ret2
      exact ⟨by rw [HB.out, HV.out]; rfl, Eg⟩
    · have hk1 : (cs.length : Int) ≤ k := by omega
      clear hn
      go_wp2
      go_ret2
      exact ⟨by rw [HB.out, HV.out]; rfl, Eg⟩
  have hn := inR_iff.1 hin
  have HB := Lib.hid (show belB n cs fs d i k = true by rw [belB, hin, HRW.out]; rfl)
  clear hin
  obtain ⟨h1, h2⟩ := hn
  have h3 : ¬ (cs.length : Int) ≤ k := by omega
  clear hr
  obtain ⟨hg, j, rfl, hi⟩ := has_parts HRW.out
  have HRO := Lib.hid (good_rates hg)
  have HG := Lib.hid hg
  clear hg
  have HV := Lib.hid (show belV n cs fs d (j : Int) k = hasI (wayL (upF cs) j (upN (upF cs) j)) k by rw [belV, HB.out, Int.toNat_natCast]; rfl)
  go_wp2_with fail
  clear q0 q1 q2 q3 q4
  refine (impl_wayUp_any n _ fv d j cs fs _ (HC.out.ext Eg) hi HG.out).mono ?_
  rintro e w1 ⟨u1, rfl, O1, F1⟩
  have HL9 := (upN_spec (upF cs) j).1
  have O1h := Lib.hid O1
  clear O1
  go_wp2_with fail
  refine (slices_ContainsI_any _ (wayL (upF cs) j (upN (upF cs) j)) k _ (Own.rd O1h.out icell_len) (by rw [wayL_len]; omega)).mono ?_
  rintro e w2 ⟨rfl, F2⟩
  go_wp2
  go_ret2
  exact ⟨by rw [HB.out, HV.out]; rfl, (Eg.trans F1).trans F2⟩
theorem spec_IsBelow_any (n : ByteArray) (cv fv : Value) (d i k : Int) (cs : List Cls) (fs : List Flt) (w : World) (hk : Keys w) (hc : RdC w cv cs) (hf : RdF w fv fs) (hz : n.size + cs.length + fs.length ≤ 1048576) :
    Calls Tryd.prog 20 #[cfgV n cv fv d, .int .i64 i, .int .i64 k] w fun e w' => e = .returned (.tuple #[.bool (belV n cs fs d i k), .bool (belB n cs fs d i k)]) ∧ Ext w w' := by
  have HC := Lib.hid hc
  have HF := Lib.hid hf
  have HK := Lib.hid hk
  clear hc hf hk
  have E0 := (Ext.refl w).alloc (.cells #[.string n, cv, fv, .int .i64 d] 31)
  have B0 := Lib.hid (Box.new w n cv fv d 31)
  go_enter Tryd.func20, Tryd.ntmps20
  go_wp2_with fail
  refine (spec_cfHas_any n _ _ d i cs fs _ (HK.out.ext E0) (HC.out.ext E0) (HF.out.ext E0) hz).mono ?_
  rintro e wg ⟨rfl, Fg⟩
  have Eg := E0.trans Fg
  cases hr : hasB n cs fs d i
  · have HB := Lib.hid (show belB n cs fs d i k = false by rw [belB, hr]; rfl)
    have HV := Lib.hid (show belV n cs fs d i k = false by rw [belV, HB.out]; rfl)
    go_wp2
    go_ret2
    exact ⟨by rw [HB.out, HV.out]; rfl, Eg⟩
  have HRW := Lib.hid hr
  obtain ⟨q0, q1, q2, q3, q4⟩ := B0.out.ext Fg
  go_wp2_with fail
  clear q0 q1 q2 q3 q4
  refine (spec_cfHas_any n _ _ d k cs fs _ (HK.out.ext Eg) (HC.out.ext Eg) (HF.out.ext Eg) hz).mono ?_
  rintro e wh ⟨rfl, Fh⟩
  have Eh := Eg.trans Fh
  have HHK := Lib.hid (show hasB n cs fs d k = inR k 0 ((cs.length : Int) - 1) by rw [hasB, (has_parts HRW.out).1]; rfl)
  cases hin : hasB n cs fs d k
  · have HB := Lib.hid (show belB n cs fs d i k = false by rw [belB, ← HHK.out, hin, Bool.and_false])
    have HV := Lib.hid (show belV n cs fs d i k = false by rw [belV, HB.out]; rfl)
    go_wp2
    go_ret2
    exact ⟨by rw [HB.out, HV.out]; rfl, Eh⟩
  have HB := Lib.hid (show belB n cs fs d i k = true by rw [belB, ← HHK.out, hin, HRW.out]; rfl)
  obtain ⟨q0, q1, q2, q3, q4⟩ := B0.out.ext (Fg.trans Fh)
  clear hr
  obtain ⟨hg, j, rfl, hi⟩ := has_parts HRW.out
  have HRO := Lib.hid (good_rates hg)
  have HG := Lib.hid hg
  clear hg
  have HV := Lib.hid (show belV n cs fs d (j : Int) k = hasI (wayL (upF cs) j (upN (upF cs) j)) k by rw [belV, HB.out, Int.toNat_natCast]; rfl)
  go_wp2_with fail
  clear q0 q1 q2 q3 q4
  refine (spec_cfUp_any n _ fv d j cs _ (HC.out.ext Eh) hi (by omega)).mono ?_
  rintro e w1 ⟨u1, rfl, O1, F1⟩
  have HL9 := (upN_spec (upF cs) j).1
  have O1h := Lib.hid O1
  clear O1
  go_wp2_with fail
  refine (spec_l1Has_any _ (wayL (upF cs) j (upN (upF cs) j)) k _ (Own.rd O1h.out icell_len) (by rw [wayL_len]; omega)).mono ?_
  rintro e w2 ⟨rfl, F2⟩
  go_wp2
  go_ret2
  exact ⟨by rw [HB.out, HV.out]; rfl, (Eh.trans F1).trans F2⟩
end Go.Proofs.YtfnnolgmhcfaiaaDoor
