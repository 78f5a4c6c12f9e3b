/- Contracts: leaves by Id, filters with bad targets. Printed by wip/tools/gen_way.py. -/
import Derived.Test.YtpgpggfndilmjaaLeaf2
namespace Go.Proofs.Ytpgpggfndilmjaa
open Go.RowKit
set_option maxHeartbeats 1000000
set_option linter.unusedSimpArgs false
set_option linter.unusedVariables false

theorem findI_bd (cs : List Cls) (id : Int) : findI cs id = -1 ∨ ∃ u : Nat, findI cs id = u ∧ u < cs.length := by
  rcases fndN_bd (fun k => clsAt cs k fun x => x.id == id) cs.length 0 with h | ⟨h1, h2⟩
  · exact .inl h
  · have h3 : findI cs id = fndN (fun k => clsAt cs k fun x => x.id == id) 0 cs.length := rfl
    obtain ⟨u, hu⟩ := Int.eq_ofNat_of_zero_le (show 0 ≤ findI cs id by omega)
    exact .inr ⟨u, hu, by omega⟩
def leafIdB (cs : List Cls) (id : Int) : Bool := decide (0 ≤ findI cs id) && leafB cs (findI cs id).toNat
def fltAt (fs : List Flt) (k : Nat) (p : Flt → Bool) : Bool := match fs[k]? with
  | some x => p x
  | none => false
theorem fltAt_is (fs : List Flt) (k : Nat) (p : Flt → Bool) (h : k < fs.length) : fltAt fs k p = p fs[k] := by simp [fltAt, h]
def btP (cs : List Cls) (fs : List Flt) (k : Nat) : Bool := fltAt fs k (fun x => !leafIdB cs x.target)
def badTV (n : ByteArray) (cs : List Cls) (fs : List Flt) (d : Int) : List Int := if smallCf cs fs then pick (btP cs fs) fs.length else []
theorem badTV_len (n : ByteArray) (cs : List Cls) (fs : List Flt) (d : Int) : (badTV n cs fs d).length ≤ 2000000 := by
  unfold badTV
  split
  · rename_i h
    simp only [smallCf, Bool.and_eq_true, decide_eq_true_eq] at h
    have := pick_len (btP cs fs) fs.length
    omega
  · simp
theorem impl_isLeafId_any (n : ByteArray) (cv fv : Value) (d id : Int) (cs : List Cls) (w : World) (hc : RdC w cv cs) (hcl : cs.length ≤ 1048576) :
    Calls Try.prog 38 #[cfgV n cv fv d, .int .i64 id] w fun e w' => e = .returned (.bool (leafIdB cs id)) ∧ Ext w w' := by
  have HC := Lib.hid hc
  clear hc
  have E0 := (Ext.refl w).alloc (.cells #[.string n, cv, fv, .int .i64 d] 33)
  go_enter Try.func38, Try.ntmps38
  go_wp2_with fail
  refine (impl_indexOf_any n _ fv d id cs _ (HC.out.ext E0) hcl).mono ?_
  rintro e w1 ⟨rfl, F1⟩
  have E1 := E0.trans F1
  rcases findI_bd cs id with h | ⟨u, hu, hul⟩
  · have HV := Lib.hid (show leafIdB cs id = false by simp [leafIdB, h])
    rw [h]
    go_wp2
    go_ret
    exact ⟨by rw [HV.out]; rfl, E1⟩
  · have HV := Lib.hid (show leafIdB cs id = leafB cs u by simp [leafIdB, hu])
    rw [hu]
    obtain ⟨q0, q1, q2, q3, _⟩ := (Box.new w n cv fv d 33).ext F1
    go_wp2_with fail
    clear q0 q1 q2 q3
    refine (impl_isLeaf_any n _ fv d u cs _ (HC.out.ext E1) hul hcl).mono ?_
    rintro e w2 ⟨rfl, F2⟩
    go_wp2
    go_ret
    exact ⟨by rw [HV.out]; rfl, E1.trans F2⟩
theorem spec_cfTarget_any (n : ByteArray) (cv fv : Value) (d id : Int) (cs : List Cls) (w : World) (hc : RdC w cv cs) (hcl : cs.length ≤ 1048576) :
    Calls Try.prog 37 #[cfgV n cv fv d, .int .i64 id] w fun e w' => e = .returned (.bool (leafIdB cs id)) ∧ Ext w w' := by
  have HC := Lib.hid hc
  clear hc
  have E0 := (Ext.refl w).alloc (.cells #[.string n, cv, fv, .int .i64 d] 33)
  go_enter Try.func37, Try.ntmps37
  go_wp2_with fail
  refine (spec_cfFind_any n _ fv d id cs _ (HC.out.ext E0) hcl).mono ?_
  rintro e w1 ⟨rfl, F1⟩
  have E1 := E0.trans F1
  rcases findI_bd cs id with h | ⟨u, hu, hul⟩
  · have HV := Lib.hid (show leafIdB cs id = false by simp [leafIdB, h])
    rw [h]
    go_wp2
    go_ret
    exact ⟨by rw [HV.out]; rfl, E1⟩
  · have HV := Lib.hid (show leafIdB cs id = leafB cs u by simp [leafIdB, hu])
    rw [hu]
    obtain ⟨q0, q1, q2, q3, _⟩ := (Box.new w n cv fv d 33).ext F1
    go_wp2_with fail
    clear q0 q1 q2 q3
    refine (spec_cfLeaf_any n _ fv d u cs _ (HC.out.ext E1) hul hcl).mono ?_
    rintro e w2 ⟨rfl, F2⟩
    go_wp2
    go_ret
    exact ⟨by rw [HV.out]; rfl, E1.trans F2⟩
theorem impl_BadTargets_any (n : ByteArray) (cv fv : Value) (d : Int) (cs : List Cls) (fs : List Flt) (w : World) (hc : RdC w cv cs) (hf : RdF w fv fs) (hz : n.size + cs.length + fs.length ≤ 1048576) :
    Calls Try.prog 18 #[cfgV n cv fv d] w fun e w' => ∃ u, e = .returned (.tuple #[u, .bool (smallCf cs fs)]) ∧ OwnI w' w.heap.size 3 u (badTV n cs fs d) ∧ Ext w w' := by
  have HC := Lib.hid hc
  have HF := Lib.hid hf
  obtain ⟨FA, fc, rfl, hcc, hrc⟩ := hf
  have HR := Lib.hid hrc
  clear hrc hc
  have E0 := (Ext.refl w).alloc (.cells #[.string n, cv, .slice FA fs.length fc, .int .i64 d] 33)
  go_enter Try.func18, Try.ntmps18
  go_wp2_with fail
  refine (impl_isRaw_any n _ _ d cs fs _ (HC.out.ext E0) (HF.out.ext E0) (by omega) (by omega)).mono ?_
  rintro e w1 ⟨rfl, F1⟩
  have E1 := E0.trans F1
  have X1 := F1
  cases hr1 : smallCf cs fs
  · have HV := Lib.hid (show badTV n cs fs d = [] by simp [badTV, hr1])
    have HOK := Lib.hid (show (smallCf cs fs) = false by simp [hr1])
    go_wp2
    go_ret2
    exact ⟨_, by rw [HOK.out]; rfl, by rw [HV.out]; exact World.ownsRow_nil _ _ _ _, E1⟩
  obtain ⟨q0, q1, q2, q3, q4⟩ := (Box.new w n cv (.slice FA fs.length fc) d 33).ext X1
  have HV := Lib.hid (show badTV n cs fs d = pick (btP cs fs) fs.length by simp [badTV, hr1])
  have HRW := Lib.hid (show (smallCf cs fs) = true by simp [hr1])
  have HR1 := Lib.hid hr1
  clear hr1
  have D0 := (show Ext (w.alloc (.cells #[.string n, cv, .slice FA fs.length fc, .int .i64 d] 33)) _ from X1).alloc (.cells #[] 3)
  have HLT : w.heap.size + 1 ≤ w1.heap.size := by have := q4; omega
  have HST := Lib.hid (show OwnI (w1.alloc (.cells #[] 3)) (w.heap.size + 1) 3 (.slice (some ⟨w1.heap.size, 0, none⟩) 0 0) [] by
    have := World.ownsRow_lit (base := w.heap.size + 1) (e := 3) (size := 1) w1 #[] 0 (by omega) (by unfold maxLen; omega) rfl
    unfold OwnI Own
    simpa using this)
  go_wp2
  clear q0 q1 q2 q3 q4
  go_loopw [14, 4] (fun t s wr => ∃ k : Nat, k ≤ fs.length ∧ t = .int .i64 (k : Int) ∧ OwnI wr (w.heap.size + 1) 3 s (pick (btP cs fs) k) ∧ Ext (w.alloc (.cells #[.string n, cv, .slice FA fs.length fc, .int .i64 d] 33)) wr) (fun t _ _ => fs.length - (intOf t).toNat)
  case atStart => exact ⟨0, Nat.zero_le _, rfl, HST.out, D0⟩
  case round =>
    obtain ⟨k, hk, rfl, hown, hx⟩ := hrel
    have HO := Lib.hid hown
    have hxw := Ext.trans ((Ext.refl w).alloc (.cells #[.string n, cv, .slice FA fs.length fc, .int .i64 d] 33)) hx
    have BX := Lib.hid ((Box.new w n cv (.slice FA fs.length fc) d 33).ext hx)
    clear hown
    by_cases hlt : k < fs.length
    · have HPK := Lib.hid (show pick (btP cs fs) (k + 1) = pick (btP cs fs) k ++ (if (btP cs fs) k then [(k : Int)] else []) from rfl)
      have HLN := Lib.hid (show (pick (btP cs fs) k).length ≤ 10000000 by have := pick_len (btP cs fs) k; omega)
      have hbp : (btP cs fs) k = !leafIdB cs fs[k].target := fltAt_is fs k _ hlt
      obtain ⟨b, o, hCA, hb, hcell⟩ := HR.out k fs[k] (List.getElem?_eq_getElem hlt)
      generalize fs[k] = x at hcell hbp
      subst hCA
      have c0 : wr.cell? ⟨b, o + k * 5, none⟩ = some (.int .i64 x.prio) := by rw [Ext.cell hxw hb]; exact hcell 0 _ rfl
      have c1 : wr.cell? ⟨b, o + k * 5 + 1, none⟩ = some (.int .i64 x.field) := by rw [Ext.cell hxw hb]; exact hcell 1 _ rfl
      have c2 : wr.cell? ⟨b, o + k * 5 + 2, none⟩ = some (.int .i64 x.mask) := by rw [Ext.cell hxw hb]; exact hcell 2 _ rfl
      have c3 : wr.cell? ⟨b, o + k * 5 + 3, none⟩ = some (.int .i64 x.value) := by rw [Ext.cell hxw hb]; exact hcell 3 _ rfl
      have c4 : wr.cell? ⟨b, o + k * 5 + 4, none⟩ = some (.int .i64 x.target) := by rw [Ext.cell hxw hb]; exact hcell 4 _ rfl
      have HBP := Lib.hid hbp
      clear hcell hbp
      obtain ⟨q0, q1, q2, q3, q4⟩ := BX.out
      go_wp2_with fail
      refine (impl_isLeafId_any n _ _ d x.target cs _ (HC.out.ext (hxw.alloc _)) (by omega)).mono ?_
      rintro e w1 ⟨rfl, F1⟩
      have D1 := (hx.alloc _).trans F1
      have G1 := ((Ext.refl wr).alloc _).trans F1
      clear c0 c1 c2 c3 c4 q0 q1 q2 q3 q4
      cases he : leafIdB cs x.target
      · have HT := Lib.hid (show btP cs fs k = true by rw [HBP.out, he]; rfl)
        go_wp2_with (at_builtin; refine app_intB (by simp) (Own.ext HO.out G1) HLN.out D1 rfl rfl rfl rfl ?_; intro v2 w2 hown2 D2)
        have HO2 := Lib.hid hown2
        clear hown2
        go_wp2
        go_roundw
        case rel => exact ⟨k + 1, by omega, by go_num, by rw [HPK.out, HT.out]; exact HO2.out, D2⟩
        case measure => simp [intOf]; omega
      · have HF := Lib.hid (show btP cs fs k = false by rw [HBP.out, he]; rfl)
        go_wp2
        go_roundw
        case rel => exact ⟨k + 1, by omega, by go_num, by rw [HPK.out, HF.out]; simp only [Bool.false_eq_true, if_false, List.append_nil]; exact Own.ext HO.out G1, D1⟩
        case measure => simp [intOf]; omega
    · obtain rfl : k = fs.length := by omega
      go_wp2
      go_ret2
      exact ⟨_, by rw [HRW.out]; rfl, by rw [HV.out]; exact Own.mono HO.out (by omega), hxw⟩
theorem spec_BadTargets_any (n : ByteArray) (cv fv : Value) (d : Int) (cs : List Cls) (fs : List Flt) (w : World) (hc : RdC w cv cs) (hf : RdF w fv fs) (hz : n.size + cs.length + fs.length ≤ 1048576) :
    Calls Try.prog 17 #[cfgV n cv fv d] w fun e w' => ∃ u, e = .returned (.tuple #[u, .bool (smallCf cs fs)]) ∧ OwnI w' w.heap.size 3 u (badTV n cs fs d) ∧ Ext w w' := by
  have HC := Lib.hid hc
  have HF := Lib.hid hf
  obtain ⟨FA, fc, rfl, hcc, hrc⟩ := hf
  have HR := Lib.hid hrc
  clear hrc hc
  have E0 := (Ext.refl w).alloc (.cells #[.string n, cv, .slice FA fs.length fc, .int .i64 d] 33)
  go_enter Try.func17, Try.ntmps17
  go_wp2_with fail
  refine (spec_vaAsked_any n _ _ d cs fs _ (HC.out.ext E0) (HF.out.ext E0) (by omega) (by omega)).mono ?_
  rintro e w1 ⟨rfl, F1⟩
  have E1 := E0.trans F1
  have X1 := F1
  cases hr1 : smallCf cs fs
  · have HV := Lib.hid (show badTV n cs fs d = [] by simp [badTV, hr1])
    have HOK := Lib.hid (show (smallCf cs fs) = false by simp [hr1])
    go_wp2
    go_ret2
    exact ⟨_, by rw [HOK.out]; rfl, by rw [HV.out]; exact World.ownsRow_nil _ _ _ _, E1⟩
  obtain ⟨q0, q1, q2, q3, q4⟩ := (Box.new w n cv (.slice FA fs.length fc) d 33).ext X1
  have HV := Lib.hid (show badTV n cs fs d = pick (btP cs fs) fs.length by simp [badTV, hr1])
  have HRW := Lib.hid (show (smallCf cs fs) = true by simp [hr1])
  have HR1 := Lib.hid hr1
  clear hr1
  have D0 := (show Ext (w.alloc (.cells #[.string n, cv, .slice FA fs.length fc, .int .i64 d] 33)) _ from X1)
  have HST := Lib.hid (show OwnI w1 (w.heap.size + 1) 3 (.slice none 0 0) [] from World.ownsRow_nil _ _ _ _)
  go_wp2
  clear q0 q1 q2 q3 q4
  go_loopw [13, 4] (fun t s wr => ∃ k : Nat, k ≤ fs.length ∧ t = .int .i64 (k : Int) ∧ OwnI wr (w.heap.size + 1) 3 s (pick (btP cs fs) k) ∧ Ext (w.alloc (.cells #[.string n, cv, .slice FA fs.length fc, .int .i64 d] 33)) wr) (fun t _ _ => fs.length - (intOf t).toNat)
  case atStart => exact ⟨0, Nat.zero_le _, rfl, HST.out, D0⟩
  case round =>
    obtain ⟨k, hk, rfl, hown, hx⟩ := hrel
    have HO := Lib.hid hown
    have hxw := Ext.trans ((Ext.refl w).alloc (.cells #[.string n, cv, .slice FA fs.length fc, .int .i64 d] 33)) hx
    have BX := Lib.hid ((Box.new w n cv (.slice FA fs.length fc) d 33).ext hx)
    clear hown
    by_cases hlt : k < fs.length
    · have HPK := Lib.hid (show pick (btP cs fs) (k + 1) = pick (btP cs fs) k ++ (if (btP cs fs) k then [(k : Int)] else []) from rfl)
      have HLN := Lib.hid (show (pick (btP cs fs) k).length ≤ 10000000 by have := pick_len (btP cs fs) k; omega)
      have hbp : (btP cs fs) k = !leafIdB cs fs[k].target := fltAt_is fs k _ hlt
      obtain ⟨b, o, hCA, hb, hcell⟩ := HR.out k fs[k] (List.getElem?_eq_getElem hlt)
      generalize fs[k] = x at hcell hbp
      subst hCA
      have c0 : wr.cell? ⟨b, o + k * 5, none⟩ = some (.int .i64 x.prio) := by rw [Ext.cell hxw hb]; exact hcell 0 _ rfl
      have c1 : wr.cell? ⟨b, o + k * 5 + 1, none⟩ = some (.int .i64 x.field) := by rw [Ext.cell hxw hb]; exact hcell 1 _ rfl
      have c2 : wr.cell? ⟨b, o + k * 5 + 2, none⟩ = some (.int .i64 x.mask) := by rw [Ext.cell hxw hb]; exact hcell 2 _ rfl
      have c3 : wr.cell? ⟨b, o + k * 5 + 3, none⟩ = some (.int .i64 x.value) := by rw [Ext.cell hxw hb]; exact hcell 3 _ rfl
      have c4 : wr.cell? ⟨b, o + k * 5 + 4, none⟩ = some (.int .i64 x.target) := by rw [Ext.cell hxw hb]; exact hcell 4 _ rfl
      have HBP := Lib.hid hbp
      clear hcell hbp
      obtain ⟨q0, q1, q2, q3, q4⟩ := BX.out
      go_wp2_with fail
      refine (spec_cfTarget_any n _ _ d x.target cs _ (HC.out.ext (hxw.alloc _)) (by omega)).mono ?_
      rintro e w1 ⟨rfl, F1⟩
      have D1 := (hx.alloc _).trans F1
      have G1 := ((Ext.refl wr).alloc _).trans F1
      clear c0 c1 c2 c3 c4 q0 q1 q2 q3 q4
      cases he : leafIdB cs x.target
      · have HT := Lib.hid (show btP cs fs k = true by rw [HBP.out, he]; rfl)
        go_wp2_with (at_builtin; refine app_intB (by simp) (Own.ext HO.out G1) HLN.out D1 rfl rfl rfl rfl ?_; intro v2 w2 hown2 D2)
        have HO2 := Lib.hid hown2
        clear hown2
        go_wp2
        go_roundw
        case rel => exact ⟨k + 1, by omega, by go_num, by rw [HPK.out, HT.out]; exact HO2.out, D2⟩
        case measure => simp [intOf]; omega
      · have HF := Lib.hid (show btP cs fs k = false by rw [HBP.out, he]; rfl)
        go_wp2
        go_roundw
        case rel => exact ⟨k + 1, by omega, by go_num, by rw [HPK.out, HF.out]; simp only [Bool.false_eq_true, if_false, List.append_nil]; exact Own.ext HO.out G1, D1⟩
        case measure => simp [intOf]; omega
    · obtain rfl : k = fs.length := by omega
      go_wp2
      go_ret2
      exact ⟨_, by rw [HRW.out]; rfl, by rw [HV.out]; exact Own.mono HO.out (by omega), hxw⟩
end Go.Proofs.Ytpgpggfndilmjaa
