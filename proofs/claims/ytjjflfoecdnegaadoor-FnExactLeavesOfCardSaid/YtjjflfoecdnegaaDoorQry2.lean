/- ChildClasses, WayUp, LeavesOf: contracts of both sides. Printed by wip/tools/gen_qry.py. -/
import Derived.Test.YtjjflfoecdnegaaDoorQry
namespace Go.Proofs.YtjjflfoecdnegaaDoor
open Go.RowKit
set_option maxRecDepth 20000
set_option maxHeartbeats 1000000
set_option linter.unusedSimpArgs false
set_option linter.unusedVariables false

def ccV (n : ByteArray) (cs : List Cls) (fs : List Flt) (d i : Int) : List Int := if hasB n cs fs d i then kidL cs i.toNat else []
def wuV (n : ByteArray) (cs : List Cls) (fs : List Flt) (d i : Int) : List Int := if hasB n cs fs d i then wayL (upF cs) i.toNat (upN (upF cs) i.toNat) else []
def lvV (n : ByteArray) (cs : List Cls) (fs : List Flt) (d : Int) : List Int := if goodB n cs fs d then pick (leafB cs) cs.length else []
theorem ccV_len (n : ByteArray) (cs : List Cls) (fs : List Flt) (d i : Int) : (ccV n cs fs d i).length ≤ 2000000 := by
  unfold ccV
  split
  · rename_i h
    have := (good_len (has_parts h).1).2.1
    have := kidL_len cs i.toNat
    omega
  · simp
theorem wuV_len (n : ByteArray) (cs : List Cls) (fs : List Flt) (d i : Int) : (wuV n cs fs d i).length ≤ 2000000 := by
  unfold wuV
  split
  · rw [wayL_len]
    have := (upN_spec (upF cs) i.toNat).1
    omega
  · simp
theorem lvV_len (n : ByteArray) (cs : List Cls) (fs : List Flt) (d : Int) : (lvV n cs fs d).length ≤ 2000000 := by
  unfold lvV
  split
  · rename_i h
    have := (good_len h).2.1
    have := pick_len (leafB cs) cs.length
    omega
  · simp
theorem impl_ChildClasses_any (n : ByteArray) (cv fv : Value) (d i : Int) (cs : List Cls) (fs : List Flt) (w : World) (hk : Keys w) (hc : RdC w cv cs) (hf : RdF w fv fs) (hz : n.size + cs.length + fs.length ≤ 1048576) :
    Calls Tryd.prog 12 #[cfgV n cv fv d, .int .i64 i] w fun e w' => ∃ u, e = .returned (.tuple #[u, .bool (hasB n cs fs d i)]) ∧ OwnI w' w.heap.size 3 u (ccV n cs fs d i) ∧ Ext w w' := by
  have HC := Lib.hid hc
  have HF := Lib.hid hf
  have HK := Lib.hid hk
  clear hc hf hk
  have E0 := (Ext.refl w).alloc (.cells #[.string n, cv, fv, .int .i64 d] 33)
  have B0 := Lib.hid (Box.new w n cv fv d 33)
  go_enter Tryd.func12, Tryd.ntmps12
  go_wp2_with fail
  refine (impl_isClassOf_any n _ _ d i cs fs _ (HK.out.ext E0) (HC.out.ext E0) (HF.out.ext E0) hz).mono ?_
  rintro e wg ⟨rfl, Fg⟩
  have Eg := E0.trans Fg
  cases hr : hasB n cs fs d i
  · have HV := Lib.hid (show ccV n cs fs d i = [] by rw [ccV, hr]; rfl)
    go_wp2
    go_ret2
    exact ⟨_, by rw [hr]; rfl, by rw [HV.out]; exact World.ownsRow_nil _ _ _ _, Eg⟩
  have HRW := Lib.hid hr
  clear hr
  obtain ⟨hg, j, rfl, hi⟩ := has_parts HRW.out
  have HRO := Lib.hid (good_rates hg)
  have HG := Lib.hid hg
  clear hg
  have HV := Lib.hid (show ccV n cs fs d (j : Int) = kidL cs j by rw [ccV, HRW.out, Int.toNat_natCast]; rfl)
  obtain ⟨q0, q1, q2, q3, q4⟩ := B0.out.ext Fg
  go_wp2_with fail
  clear q0 q1 q2 q3 q4
  refine (impl_childrenOf_any n _ fv d j cs _ (HC.out.ext Eg) hi (by omega)).mono ?_
  rintro e w1 ⟨u1, rfl, O1, F1⟩
  have HO := Lib.hid O1
  clear O1
  go_wp2
  go_ret2
  exact ⟨_, by rw [HRW.out]; rfl, by rw [HV.out]; exact Own.mono HO.out (Ext.size Eg), Eg.trans F1⟩
theorem spec_ChildClasses_any (n : ByteArray) (cv fv : Value) (d i : Int) (cs : List Cls) (fs : List Flt) (w : World) (hk : Keys w) (hc : RdC w cv cs) (hf : RdF w fv fs) (hz : n.size + cs.length + fs.length ≤ 1048576) :
    Calls Tryd.prog 10 #[cfgV n cv fv d, .int .i64 i] w fun e w' => ∃ u, e = .returned (.tuple #[u, .bool (hasB n cs fs d i)]) ∧ OwnI w' w.heap.size 3 u (ccV n cs fs d i) ∧ Ext w w' := by
  have HC := Lib.hid hc
  have HF := Lib.hid hf
  have HK := Lib.hid hk
  clear hc hf hk
  have E0 := (Ext.refl w).alloc (.cells #[.string n, cv, fv, .int .i64 d] 33)
  have B0 := Lib.hid (Box.new w n cv fv d 33)
  go_enter Tryd.func10, Tryd.ntmps10
  go_wp2_with fail
  refine (spec_cfHas_any n _ _ d i cs fs _ (HK.out.ext E0) (HC.out.ext E0) (HF.out.ext E0) hz).mono ?_
  rintro e wg ⟨rfl, Fg⟩
  have Eg := E0.trans Fg
  cases hr : hasB n cs fs d i
  · have HV := Lib.hid (show ccV n cs fs d i = [] by rw [ccV, hr]; rfl)
    go_wp2
    go_ret2
    exact ⟨_, by rw [hr]; rfl, by rw [HV.out]; exact World.ownsRow_nil _ _ _ _, Eg⟩
  have HRW := Lib.hid hr
  clear hr
  obtain ⟨hg, j, rfl, hi⟩ := has_parts HRW.out
  have HRO := Lib.hid (good_rates hg)
  have HG := Lib.hid hg
  clear hg
  have HV := Lib.hid (show ccV n cs fs d (j : Int) = kidL cs j by rw [ccV, HRW.out, Int.toNat_natCast]; rfl)
  obtain ⟨q0, q1, q2, q3, q4⟩ := B0.out.ext Fg
  go_wp2_with fail
  clear q0 q1 q2 q3 q4
  refine (spec_cfKids_any n _ fv d j cs _ (HC.out.ext Eg) hi (by omega)).mono ?_
  rintro e w1 ⟨u1, rfl, O1, F1⟩
  have HO := Lib.hid O1
  clear O1
  go_wp2
  go_ret2
  exact ⟨_, by rw [HRW.out]; rfl, by rw [HV.out]; exact Own.mono HO.out (Ext.size Eg), Eg.trans F1⟩
theorem impl_WayUp_any (n : ByteArray) (cv fv : Value) (d i : Int) (cs : List Cls) (fs : List Flt) (w : World) (hk : Keys w) (hc : RdC w cv cs) (hf : RdF w fv fs) (hz : n.size + cs.length + fs.length ≤ 1048576) :
    Calls Tryd.prog 19 #[cfgV n cv fv d, .int .i64 i] w fun e w' => ∃ u, e = .returned (.tuple #[u, .bool (hasB n cs fs d i)]) ∧ OwnI w' w.heap.size 3 u (wuV n cs fs d i) ∧ Ext w w' := by
  have HC := Lib.hid hc
  have HF := Lib.hid hf
  have HK := Lib.hid hk
  clear hc hf hk
  have E0 := (Ext.refl w).alloc (.cells #[.string n, cv, fv, .int .i64 d] 33)
  have B0 := Lib.hid (Box.new w n cv fv d 33)
  go_enter Tryd.func19, Tryd.ntmps19
  go_wp2_with fail
  refine (impl_isClassOf_any n _ _ d i cs fs _ (HK.out.ext E0) (HC.out.ext E0) (HF.out.ext E0) hz).mono ?_
  rintro e wg ⟨rfl, Fg⟩
  have Eg := E0.trans Fg
  cases hr : hasB n cs fs d i
  · have HV := Lib.hid (show wuV n cs fs d i = [] by rw [wuV, hr]; rfl)
    go_wp2
    go_ret2
    exact ⟨_, by rw [hr]; rfl, by rw [HV.out]; exact World.ownsRow_nil _ _ _ _, Eg⟩
  have HRW := Lib.hid hr
  clear hr
  obtain ⟨hg, j, rfl, hi⟩ := has_parts HRW.out
  have HRO := Lib.hid (good_rates hg)
  have HG := Lib.hid hg
  clear hg
  have HV := Lib.hid (show wuV n cs fs d (j : Int) = wayL (upF cs) j (upN (upF cs) j) by rw [wuV, HRW.out, Int.toNat_natCast]; rfl)
  obtain ⟨q0, q1, q2, q3, q4⟩ := B0.out.ext Fg
  go_wp2_with fail
  clear q0 q1 q2 q3 q4
  refine (impl_wayUp_any n _ fv d j cs fs _ (HC.out.ext Eg) hi HG.out).mono ?_
  rintro e w1 ⟨u1, rfl, O1, F1⟩
  have HO := Lib.hid O1
  clear O1
  go_wp2
  go_ret2
  exact ⟨_, by rw [HRW.out]; rfl, by rw [HV.out]; exact Own.mono HO.out (Ext.size Eg), Eg.trans F1⟩
theorem spec_WayUp_any (n : ByteArray) (cv fv : Value) (d i : Int) (cs : List Cls) (fs : List Flt) (w : World) (hk : Keys w) (hc : RdC w cv cs) (hf : RdF w fv fs) (hz : n.size + cs.length + fs.length ≤ 1048576) :
    Calls Tryd.prog 18 #[cfgV n cv fv d, .int .i64 i] w fun e w' => ∃ u, e = .returned (.tuple #[u, .bool (hasB n cs fs d i)]) ∧ OwnI w' w.heap.size 3 u (wuV n cs fs d i) ∧ Ext w w' := by
  have HC := Lib.hid hc
  have HF := Lib.hid hf
  have HK := Lib.hid hk
  clear hc hf hk
  have E0 := (Ext.refl w).alloc (.cells #[.string n, cv, fv, .int .i64 d] 33)
  have B0 := Lib.hid (Box.new w n cv fv d 33)
  go_enter Tryd.func18, Tryd.ntmps18
  go_wp2_with fail
  refine (spec_cfHas_any n _ _ d i cs fs _ (HK.out.ext E0) (HC.out.ext E0) (HF.out.ext E0) hz).mono ?_
  rintro e wg ⟨rfl, Fg⟩
  have Eg := E0.trans Fg
  cases hr : hasB n cs fs d i
  · have HV := Lib.hid (show wuV n cs fs d i = [] by rw [wuV, hr]; rfl)
    go_wp2
    go_ret2
    exact ⟨_, by rw [hr]; rfl, by rw [HV.out]; exact World.ownsRow_nil _ _ _ _, Eg⟩
  have HRW := Lib.hid hr
  clear hr
  obtain ⟨hg, j, rfl, hi⟩ := has_parts HRW.out
  have HRO := Lib.hid (good_rates hg)
  have HG := Lib.hid hg
  clear hg
  have HV := Lib.hid (show wuV n cs fs d (j : Int) = wayL (upF cs) j (upN (upF cs) j) by rw [wuV, HRW.out, Int.toNat_natCast]; rfl)
  obtain ⟨q0, q1, q2, q3, q4⟩ := B0.out.ext Fg
  go_wp2_with fail
  clear q0 q1 q2 q3 q4
  refine (spec_cfUp_any n _ fv d j cs _ (HC.out.ext Eg) hi (by omega)).mono ?_
  rintro e w1 ⟨u1, rfl, O1, F1⟩
  have HO := Lib.hid O1
  clear O1
  go_wp2
  go_ret2
  exact ⟨_, by rw [HRW.out]; rfl, by rw [HV.out]; exact Own.mono HO.out (Ext.size Eg), Eg.trans F1⟩
theorem impl_leavesOf_any (n : ByteArray) (cv fv : Value) (d : Int) (cs : List Cls) (w : World) (hc : RdC w cv cs) (hcl : cs.length ≤ 1048576) :
    Calls Tryd.prog 46 #[cfgV n cv fv d] w fun e w' => ∃ u, e = .returned u ∧ OwnI w' w.heap.size 3 u (pick (leafB cs) cs.length) ∧ Ext w w' := by
  have HC := Lib.hid hc
  obtain ⟨CA, cc, rfl, hcc, hrc⟩ := hc
  have HR := Lib.hid hrc
  clear hrc
  have E0 := (Ext.refl w).alloc (.cells #[.string n, .slice CA cs.length cc, fv, .int .i64 d] 33)
  go_enter Tryd.func46, Tryd.ntmps46
  have D0 := (show Ext (w.alloc (.cells #[.string n, .slice CA cs.length cc, fv, .int .i64 d] 33)) _ from Ext.refl _).alloc (.cells #[] 3)
  have HLT : w.heap.size + 1 ≤ (w.alloc (.cells #[.string n, .slice CA cs.length cc, fv, .int .i64 d] 33)).heap.size := by simp
  have HST := Lib.hid (show OwnI ((w.alloc (.cells #[.string n, .slice CA cs.length cc, fv, .int .i64 d] 33)).alloc (.cells #[] 3)) (w.heap.size + 1) 3 (.slice (some ⟨w.heap.size + 1, 0, none⟩) 0 0) [] by
    have := World.ownsRow_lit (base := w.heap.size + 1) (e := 3) (size := 1) (w.alloc (.cells #[.string n, .slice CA cs.length cc, fv, .int .i64 d] 33)) #[] 0 (by simp) (by unfold maxLen; omega) rfl
    unfold OwnI Own
    simpa using this)
  go_wp2
  go_loopw [9, 3] (fun t s wr => ∃ k : Nat, k ≤ cs.length ∧ t = .int .i64 (k : Int) ∧ OwnI wr (w.heap.size + 1) 3 s (pick (leafB cs) k) ∧ Ext (w.alloc (.cells #[.string n, .slice CA cs.length cc, fv, .int .i64 d] 33)) wr) (fun t _ _ => cs.length - (intOf t).toNat)
  case atStart => exact ⟨0, Nat.zero_le _, rfl, HST.out, D0⟩
  case round =>
    obtain ⟨k, hk, rfl, hown, hx⟩ := hrel
    have HO := Lib.hid hown
    have hxw := Ext.trans ((Ext.refl w).alloc (.cells #[.string n, .slice CA cs.length cc, fv, .int .i64 d] 33)) hx
    have BX := Lib.hid ((Box.new w n (.slice CA cs.length cc) fv d 33).ext hx)
    clear hown
    by_cases hlt : k < cs.length
    · have HPK := Lib.hid (show pick (leafB cs) (k + 1) = pick (leafB cs) k ++ (if (leafB cs) k then [(k : Int)] else []) from rfl)
      have HLN := Lib.hid (show (pick (leafB cs) k).length ≤ 10000000 by have := pick_len (leafB cs) k; omega)
      obtain ⟨q0, q1, q2, q3, q4⟩ := BX.out
      go_wp2_with fail
      refine (impl_isLeaf_any n _ fv d k cs _ (HC.out.ext hxw) hlt (by omega)).mono ?_
      rintro e w1 ⟨rfl, F1⟩
      clear q0 q1 q2 q3 q4
      have D1 := hx.trans F1
      cases he : leafB cs k
      · have HF := Lib.hid he
        go_wp2
        go_roundw
        case rel => exact ⟨k + 1, by omega, by go_num, by rw [HPK.out, HF.out]; simp only [Bool.false_eq_true, if_false, List.append_nil]; exact Own.ext HO.out F1, D1⟩
        case measure => simp [intOf]; omega
      · have HT := Lib.hid he
        go_wp2_with (at_builtin; refine app_intB (by simp) (Own.ext HO.out F1) HLN.out D1 rfl rfl rfl rfl ?_; intro v2 w2 hown2 D2)
        have HO2 := Lib.hid hown2
        clear hown2
        go_wp2
        go_roundw
        case rel => exact ⟨k + 1, by omega, by go_num, by rw [HPK.out, HT.out]; exact HO2.out, D2⟩
        case measure => simp [intOf]; omega
    · obtain rfl : k = cs.length := by omega
      go_wp2
      go_ret
      exact ⟨_, rfl, Own.mono HO.out (by omega), hxw⟩
theorem spec_cfLeaves_any (n : ByteArray) (cv fv : Value) (d : Int) (cs : List Cls) (w : World) (hc : RdC w cv cs) (hcl : cs.length ≤ 1048576) :
    Calls Tryd.prog 44 #[cfgV n cv fv d] w fun e w' => ∃ u, e = .returned u ∧ OwnI w' w.heap.size 3 u (pick (leafB cs) cs.length) ∧ Ext w w' := by
  have HC := Lib.hid hc
  obtain ⟨CA, cc, rfl, hcc, hrc⟩ := hc
  have HR := Lib.hid hrc
  clear hrc
  have E0 := (Ext.refl w).alloc (.cells #[.string n, .slice CA cs.length cc, fv, .int .i64 d] 33)
  go_enter Tryd.func44, Tryd.ntmps44
  have D0 := (show Ext (w.alloc (.cells #[.string n, .slice CA cs.length cc, fv, .int .i64 d] 33)) _ from Ext.refl _)
  have HST := Lib.hid (show OwnI (w.alloc (.cells #[.string n, .slice CA cs.length cc, fv, .int .i64 d] 33)) (w.heap.size + 1) 3 (.slice none 0 0) [] from World.ownsRow_nil _ _ _ _)
  go_wp2
  go_loopw [8, 3] (fun t s wr => ∃ k : Nat, k ≤ cs.length ∧ t = .int .i64 (k : Int) ∧ OwnI wr (w.heap.size + 1) 3 s (pick (leafB cs) k) ∧ Ext (w.alloc (.cells #[.string n, .slice CA cs.length cc, fv, .int .i64 d] 33)) wr) (fun t _ _ => cs.length - (intOf t).toNat)
  case atStart => exact ⟨0, Nat.zero_le _, rfl, HST.out, D0⟩
  case round =>
    obtain ⟨k, hk, rfl, hown, hx⟩ := hrel
    have HO := Lib.hid hown
    have hxw := Ext.trans ((Ext.refl w).alloc (.cells #[.string n, .slice CA cs.length cc, fv, .int .i64 d] 33)) hx
    have BX := Lib.hid ((Box.new w n (.slice CA cs.length cc) fv d 33).ext hx)
    clear hown
    by_cases hlt : k < cs.length
    · have HPK := Lib.hid (show pick (leafB cs) (k + 1) = pick (leafB cs) k ++ (if (leafB cs) k then [(k : Int)] else []) from rfl)
      have HLN := Lib.hid (show (pick (leafB cs) k).length ≤ 10000000 by have := pick_len (leafB cs) k; omega)
      obtain ⟨q0, q1, q2, q3, q4⟩ := BX.out
      go_wp2_with fail
      refine (spec_cfLeaf_any n _ fv d k cs _ (HC.out.ext hxw) hlt (by omega)).mono ?_
      rintro e w1 ⟨rfl, F1⟩
      clear q0 q1 q2 q3 q4
      have D1 := hx.trans F1
      cases he : leafB cs k
      · have HF := Lib.hid he
        go_wp2
        go_roundw
        case rel => exact ⟨k + 1, by omega, by go_num, by rw [HPK.out, HF.out]; simp only [Bool.false_eq_true, if_false, List.append_nil]; exact Own.ext HO.out F1, D1⟩
        case measure => simp [intOf]; omega
      · have HT := Lib.hid he
        go_wp2_with (at_builtin; refine app_intB (by simp) (Own.ext HO.out F1) HLN.out D1 rfl rfl rfl rfl ?_; intro v2 w2 hown2 D2)
        have HO2 := Lib.hid hown2
        clear hown2
        go_wp2
        go_roundw
        case rel => exact ⟨k + 1, by omega, by go_num, by rw [HPK.out, HT.out]; exact HO2.out, D2⟩
        case measure => simp [intOf]; omega
    · obtain rfl : k = cs.length := by omega
      go_wp2
      go_ret
      exact ⟨_, rfl, Own.mono HO.out (by omega), hxw⟩
theorem impl_LeavesOf_any (n : ByteArray) (cv fv : Value) (d : Int) (cs : List Cls) (fs : List Flt) (w : World) (hk : Keys w) (hc : RdC w cv cs) (hf : RdF w fv fs) (hz : n.size + cs.length + fs.length ≤ 1048576) :
    Calls Tryd.prog 21 #[cfgV n cv fv d] w fun e w' => ∃ u, e = .returned (.tuple #[u, .bool (goodB n cs fs d)]) ∧ OwnI w' w.heap.size 3 u (lvV n cs fs d) ∧ Ext w w' := by
  have HC := Lib.hid hc
  have HF := Lib.hid hf
  have HK := Lib.hid hk
  clear hc hf hk
  have E0 := (Ext.refl w).alloc (.cells #[.string n, cv, fv, .int .i64 d] 33)
  have B0 := Lib.hid (Box.new w n cv fv d 33)
  go_enter Tryd.func21, Tryd.ntmps21
  go_wp2_with fail
  refine (impl_IsConfig_any n _ _ d cs fs _ (HK.out.ext E0) (HC.out.ext E0) (HF.out.ext E0) hz).mono ?_
  rintro e wg ⟨rfl, Fg⟩
  have Eg := E0.trans Fg
  cases hr : goodB n cs fs d
  · have HV := Lib.hid (show lvV n cs fs d = [] by rw [lvV, hr]; rfl)
    go_wp2
    go_ret2
    exact ⟨_, by rw [hr]; rfl, by rw [HV.out]; exact World.ownsRow_nil _ _ _ _, Eg⟩
  have HRW := Lib.hid hr
  have HV := Lib.hid (show lvV n cs fs d = pick (leafB cs) cs.length by rw [lvV, HRW.out]; rfl)
  obtain ⟨q0, q1, q2, q3, q4⟩ := B0.out.ext Fg
  go_wp2_with fail
  clear q0 q1 q2 q3 q4
  refine (impl_leavesOf_any n _ fv d cs _ (HC.out.ext Eg) (by omega)).mono ?_
  rintro e w1 ⟨u1, rfl, O1, F1⟩
  have HO := Lib.hid O1
  clear O1
  go_wp2
  go_ret2
  exact ⟨_, by rw [HRW.out]; rfl, by rw [HV.out]; exact Own.mono HO.out (Ext.size Eg), Eg.trans F1⟩
theorem spec_LeavesOf_any (n : ByteArray) (cv fv : Value) (d : Int) (cs : List Cls) (fs : List Flt) (w : World) (hk : Keys w) (hc : RdC w cv cs) (hf : RdF w fv fs) (hz : n.size + cs.length + fs.length ≤ 1048576) :
    Calls Tryd.prog 20 #[cfgV n cv fv d] w fun e w' => ∃ u, e = .returned (.tuple #[u, .bool (goodB n cs fs d)]) ∧ OwnI w' w.heap.size 3 u (lvV n cs fs d) ∧ Ext w w' := by
  have HC := Lib.hid hc
  have HF := Lib.hid hf
  have HK := Lib.hid hk
  clear hc hf hk
  have E0 := (Ext.refl w).alloc (.cells #[.string n, cv, fv, .int .i64 d] 33)
  have B0 := Lib.hid (Box.new w n cv fv d 33)
  go_enter Tryd.func20, Tryd.ntmps20
  go_wp2_with fail
  refine (spec_cfGood_any n _ _ d cs fs _ (HK.out.ext E0) (HC.out.ext E0) (HF.out.ext E0) hz).mono ?_
  rintro e wg ⟨rfl, Fg⟩
  have Eg := E0.trans Fg
  cases hr : goodB n cs fs d
  · have HV := Lib.hid (show lvV n cs fs d = [] by rw [lvV, hr]; rfl)
    go_wp2
    go_ret2
    exact ⟨_, by rw [hr]; rfl, by rw [HV.out]; exact World.ownsRow_nil _ _ _ _, Eg⟩
  have HRW := Lib.hid hr
  have HV := Lib.hid (show lvV n cs fs d = pick (leafB cs) cs.length by rw [lvV, HRW.out]; rfl)
  obtain ⟨q0, q1, q2, q3, q4⟩ := B0.out.ext Fg
  go_wp2_with fail
  clear q0 q1 q2 q3 q4
  refine (spec_cfLeaves_any n _ fv d cs _ (HC.out.ext Eg) (by omega)).mono ?_
  rintro e w1 ⟨u1, rfl, O1, F1⟩
  have HO := Lib.hid O1
  clear O1
  go_wp2
  go_ret2
  exact ⟨_, by rw [HRW.out]; rfl, by rw [HV.out]; exact Own.mono HO.out (Ext.size Eg), Eg.trans F1⟩
end Go.Proofs.YtjjflfoecdnegaaDoor
