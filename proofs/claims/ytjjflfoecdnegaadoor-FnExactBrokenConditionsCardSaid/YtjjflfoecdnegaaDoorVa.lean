/- The single conditions: contracts of the reference. Printed by wip/tools/gen_va.py. -/
import Derived.Test.YtjjflfoecdnegaaDoorGood
namespace Go.Proofs.YtjjflfoecdnegaaDoor
open Go.RowKit
set_option maxRecDepth 20000
set_option maxHeartbeats 1000000
set_option linter.unusedSimpArgs false
set_option linter.unusedVariables false

theorem spec_vaTree_any2 (n : ByteArray) (cv fv : Value) (d : Int) (cs : List Cls) (w : World) (hc : RdC w cv cs) (hcl : cs.length ≤ 1048576) :
    Calls Tryd.prog 66 #[cfgV n cv fv d, .int .i64 2] w fun e w' => e = .returned (.bool (idsB cs)) ∧ Ext w w' := by
  have HC := Lib.hid hc
  obtain ⟨CA, cc, rfl, hcc, hrc⟩ := hc
  have HR := Lib.hid hrc
  clear hrc
  have E0 := (Ext.refl w).alloc (.cells #[.string n, .slice CA cs.length cc, fv, .int .i64 d] 33)
  go_enter Tryd.func66, Tryd.ntmps66
  go_wp2
  go_loopw [13, 5] (fun t s wr => ∃ k : Nat, k ≤ cs.length ∧ t = .int .i64 (k : Int) ∧ s = .int .i64 (topsN cs k) ∧ Hid (∀ j, j < k → idBad cs j = false) ∧ Ext (w.alloc (.cells #[.string n, .slice CA cs.length cc, fv, .int .i64 d] 33)) wr) (fun t _ _ => cs.length - (intOf t).toNat)
  case atStart => exact ⟨0, Nat.zero_le _, rfl, rfl, fun j hj => absurd hj (Nat.not_lt_zero _), Ext.refl _⟩
  case round =>
    obtain ⟨k, hk, rfl, rfl, hq, hx⟩ := hrel
    have hxw := Ext.trans ((Ext.refl w).alloc (.cells #[.string n, .slice CA cs.length cc, fv, .int .i64 d] 33)) hx
    have BX := Lib.hid ((Box.new w n (.slice CA cs.length cc) fv d 33).ext hx)
    obtain ⟨q0, q1, q2, q3, q4⟩ := BX.out
    by_cases hlt : k < cs.length
    · have HEQ := Lib.hid (List.getElem?_eq_getElem hlt)
      obtain ⟨b, o, hCA, hb, hcell⟩ := HR.out k cs[k] (List.getElem?_eq_getElem hlt)
      obtain ⟨x, hxe⟩ : ∃ x, x = cs[k] := ⟨_, rfl⟩
      rw [← hxe] at hcell
      have HX := Lib.hid hxe
      clear hxe
      subst hCA
      have c0 : wr.cell? ⟨b, o + k * 8, none⟩ = some (.int .i64 x.id) := by rw [Ext.cell hxw hb]; exact hcell 0 _ rfl
      have c1 : wr.cell? ⟨b, o + k * 8 + 1, none⟩ = some (.int .i64 x.parent) := by rw [Ext.cell hxw hb]; exact hcell 1 _ rfl
      have c2 : wr.cell? ⟨b, o + k * 8 + 2, none⟩ = some (.int .i64 x.rate) := by rw [Ext.cell hxw hb]; exact hcell 2 _ rfl
      have c3 : wr.cell? ⟨b, o + k * 8 + 3, none⟩ = some (.int .i64 x.ceil) := by rw [Ext.cell hxw hb]; exact hcell 3 _ rfl
      have c4 : wr.cell? ⟨b, o + k * 8 + 4, none⟩ = some (.int .i64 x.burst) := by rw [Ext.cell hxw hb]; exact hcell 4 _ rfl
      have c5 : wr.cell? ⟨b, o + k * 8 + 5, none⟩ = some (.int .i64 x.cburst) := by rw [Ext.cell hxw hb]; exact hcell 5 _ rfl
      have c6 : wr.cell? ⟨b, o + k * 8 + 6, none⟩ = some (.int .i64 x.prio) := by rw [Ext.cell hxw hb]; exact hcell 6 _ rfl
      have c7 : wr.cell? ⟨b, o + k * 8 + 7, none⟩ = some (.int .i64 x.limit) := by rw [Ext.cell hxw hb]; exact hcell 7 _ rfl
      have z0 : b < wr.heap.size := Ext.lts hxw _ hb
      have z1 : b < wr.heap.size + 1 := by omega
      have q5 : w.heap.size < wr.heap.size + 1 := by omega
      have HTS := Lib.hid (topsN_succ cs k)
      have HTP := Lib.hid (show topP cs k = (x.parent == 0) by rw [topP, parAt_of hlt HX.out])
      have hb0 := (topsN_bd cs k).1
      have hb1 : topsN cs k ≤ 1048576 := by have := (topsN_bd cs k).2; omega
      generalize topsN cs k = S at *
      clear hcell
      by_cases hp : x.parent = 0
      · have HT := Lib.hid (show topP cs k = true by rw [HTP.out]; simp [hp])
        go_wp2_with fail
        refine (spec_vaWay_any n _ fv d k cs _ (HC.out.ext (hxw.alloc _)) hlt (by omega)).mono ?_
        rintro e w1 ⟨rfl, F1⟩
        have D1 := (hx.alloc _).trans F1
        have E1 := (hxw.alloc _).trans F1
        have l0 : w1.cell? ⟨wr.heap.size, 0, none⟩ = some (.int .i64 x.id) := (Ext.cell F1 (by simp)).trans (by simp)
        have l1 : w1.cell? ⟨wr.heap.size, 1, none⟩ = some (.int .i64 x.parent) := (Ext.cell F1 (by simp)).trans (by simp; try exact hp.symm)
        have BX1 := Lib.hid (BX.out.ext (((Ext.refl wr).alloc _).trans F1))
        clear c0 c1 c2 c3 c4 c5 c6 c7 q0 q1 q2 q3 q4
        obtain ⟨q0, q1, q2, q3, q4⟩ := BX1.out
        have z2 : b < w1.heap.size := Ext.lts E1 _ hb
        have z3 : wr.heap.size < w1.heap.size := Ext.lts F1 _ (by simp)
        have HI := Lib.hid (idAt_of hlt HX.out)
        go_wp2_with fail
        cases hi : inR x.id 1 999
        · have HE := Lib.hid (show idBad cs k = true by simp only [idBad, HI.out, hi]; rfl)
          (go_wp2_with fail; refine wp_region_ext (by kernel_rfl) (by kernel_rfl) ?_; (repeat (first | go_big_quiet_step ((first | (go_at_call 51; exact calls_later_same (spec_l1In_any _ _ _ _ )))) | quiet_step ((first | (go_at_call 51; exact calls_later_same (spec_l1In_any _ _ _ _ )))))); refine wpQuiet_nil ?_; intro wq hbq; have hcq := Ext.cells hbq; have hzq := Ext.frozens hbq; have hsq := Ext.lts hbq)
          have HV := Lib.hid (show idsB cs = false by rw [idsB, noN_found hlt HE.out]; rfl)
          go_wp2
          go_ret
          exact ⟨by rw [HV.out]; rfl, E1.trans hbq⟩
        · by_cases hk0 : k = 0
          · have HE := Lib.hid (show idBad cs k = false by simp only [idBad, HI.out, hi]; simp [hk0])
            (go_wp2_with fail; refine wp_region_ext (by kernel_rfl) (by kernel_rfl) ?_; (repeat (first | go_big_quiet_step ((first | (go_at_call 51; exact calls_later_same (spec_l1In_any _ _ _ _ )))) | quiet_step ((first | (go_at_call 51; exact calls_later_same (spec_l1In_any _ _ _ _ )))))); refine wpQuiet_nil ?_; intro wq hbq; have hcq := Ext.cells hbq; have hzq := Ext.frozens hbq; have hsq := Ext.lts hbq)
            go_wp2
            go_roundw
            case rel => exact ⟨k + 1, by omega, by go_num, by rw [HTS.out, HT.out]; first | done | go_num | (simp; done), all_succ hq.out HE.out, D1.trans hbq⟩
            case measure => simp [intOf]; omega
          · have hk0' : 0 < k := by omega
            have hk1 : k - 1 < cs.length := by omega
            have hki : ((k : Int) - 1) = ((k - 1 : Nat) : Int) := by omega
            obtain ⟨b', o', hAA, hb', hcell'⟩ := HR.out (k - 1) cs[k - 1] (List.getElem?_eq_getElem hk1)
            simp only [Option.some.injEq, Addr.mk.injEq, and_true] at hAA
            obtain ⟨rfl, rfl⟩ := hAA
            obtain ⟨y, hye⟩ : ∃ y, y = cs[k - 1] := ⟨_, rfl⟩
            rw [← hye] at hcell'
            have HY := Lib.hid hye
            clear hye
            have d0 : w1.cell? ⟨b, o + (k - 1) * 8, none⟩ = some (.int .i64 y.id) := by rw [Ext.cell E1 hb]; exact hcell' 0 _ rfl
            clear hcell' hb'
            have HIY := Lib.hid (idAt_of hk1 HY.out)
            by_cases hle : x.id ≤ y.id
            · have HE := Lib.hid (show idBad cs k = true by simp only [idBad, HI.out, HIY.out, hi]; simp [hle]; omega)
              (go_wp2_with fail; refine wp_region_ext (by kernel_rfl) (by kernel_rfl) ?_; (repeat (first | go_big_quiet_step ((first | (go_at_call 51; exact calls_later_same (spec_l1In_any _ _ _ _ )))) | quiet_step ((first | (go_at_call 51; exact calls_later_same (spec_l1In_any _ _ _ _ )))))); refine wpQuiet_nil ?_; intro wq hbq; have hcq := Ext.cells hbq; have hzq := Ext.frozens hbq; have hsq := Ext.lts hbq)
              have HV := Lib.hid (show idsB cs = false by rw [idsB, noN_found hlt HE.out]; rfl)
              go_wp2
              go_ret
              exact ⟨by rw [HV.out]; rfl, E1.trans hbq⟩
            · have HE := Lib.hid (show idBad cs k = false by simp only [idBad, HI.out, HIY.out, hi]; simp [hle])
              (go_wp2_with fail; refine wp_region_ext (by kernel_rfl) (by kernel_rfl) ?_; (repeat (first | go_big_quiet_step ((first | (go_at_call 51; exact calls_later_same (spec_l1In_any _ _ _ _ )))) | quiet_step ((first | (go_at_call 51; exact calls_later_same (spec_l1In_any _ _ _ _ )))))); refine wpQuiet_nil ?_; intro wq hbq; have hcq := Ext.cells hbq; have hzq := Ext.frozens hbq; have hsq := Ext.lts hbq)
              go_wp2
              go_roundw
              case rel => exact ⟨k + 1, by omega, by go_num, by rw [HTS.out, HT.out]; first | done | go_num | (simp; done), all_succ hq.out HE.out, D1.trans hbq⟩
              case measure => simp [intOf]; omega
      · have HT := Lib.hid (show topP cs k = false by rw [HTP.out]; simp [hp])
        have hp' : (x.parent == 0) = false := by simp [hp]
        go_wp2_with fail
        refine (spec_vaWay_any n _ fv d k cs _ (HC.out.ext (hxw.alloc _)) hlt (by omega)).mono ?_
        rintro e w1 ⟨rfl, F1⟩
        have D1 := (hx.alloc _).trans F1
        have E1 := (hxw.alloc _).trans F1
        have l0 : w1.cell? ⟨wr.heap.size, 0, none⟩ = some (.int .i64 x.id) := (Ext.cell F1 (by simp)).trans (by simp)
        have l1 : w1.cell? ⟨wr.heap.size, 1, none⟩ = some (.int .i64 x.parent) := (Ext.cell F1 (by simp)).trans (by simp; try exact hp.symm)
        have BX1 := Lib.hid (BX.out.ext (((Ext.refl wr).alloc _).trans F1))
        clear c0 c1 c2 c3 c4 c5 c6 c7 q0 q1 q2 q3 q4
        obtain ⟨q0, q1, q2, q3, q4⟩ := BX1.out
        have z2 : b < w1.heap.size := Ext.lts E1 _ hb
        have z3 : wr.heap.size < w1.heap.size := Ext.lts F1 _ (by simp)
        have HI := Lib.hid (idAt_of hlt HX.out)
        go_wp2_with fail
        cases hi : inR x.id 1 999
        · have HE := Lib.hid (show idBad cs k = true by simp only [idBad, HI.out, hi]; rfl)
          (go_wp2_with fail; refine wp_region_ext (by kernel_rfl) (by kernel_rfl) ?_; (repeat (first | go_big_quiet_step ((first | (go_at_call 51; exact calls_later_same (spec_l1In_any _ _ _ _ )))) | quiet_step ((first | (go_at_call 51; exact calls_later_same (spec_l1In_any _ _ _ _ )))))); refine wpQuiet_nil ?_; intro wq hbq; have hcq := Ext.cells hbq; have hzq := Ext.frozens hbq; have hsq := Ext.lts hbq)
          have HV := Lib.hid (show idsB cs = false by rw [idsB, noN_found hlt HE.out]; rfl)
          go_wp2
          go_ret
          exact ⟨by rw [HV.out]; rfl, E1.trans hbq⟩
        · by_cases hk0 : k = 0
          · have HE := Lib.hid (show idBad cs k = false by simp only [idBad, HI.out, hi]; simp [hk0])
            (go_wp2_with fail; refine wp_region_ext (by kernel_rfl) (by kernel_rfl) ?_; (repeat (first | go_big_quiet_step ((first | (go_at_call 51; exact calls_later_same (spec_l1In_any _ _ _ _ )))) | quiet_step ((first | (go_at_call 51; exact calls_later_same (spec_l1In_any _ _ _ _ )))))); refine wpQuiet_nil ?_; intro wq hbq; have hcq := Ext.cells hbq; have hzq := Ext.frozens hbq; have hsq := Ext.lts hbq)
            go_wp2
            go_roundw
            case rel => exact ⟨k + 1, by omega, by go_num, by rw [HTS.out, HT.out]; first | done | go_num | (simp; done), all_succ hq.out HE.out, D1.trans hbq⟩
            case measure => simp [intOf]; omega
          · have hk0' : 0 < k := by omega
            have hk1 : k - 1 < cs.length := by omega
            have hki : ((k : Int) - 1) = ((k - 1 : Nat) : Int) := by omega
            obtain ⟨b', o', hAA, hb', hcell'⟩ := HR.out (k - 1) cs[k - 1] (List.getElem?_eq_getElem hk1)
            simp only [Option.some.injEq, Addr.mk.injEq, and_true] at hAA
            obtain ⟨rfl, rfl⟩ := hAA
            obtain ⟨y, hye⟩ : ∃ y, y = cs[k - 1] := ⟨_, rfl⟩
            rw [← hye] at hcell'
            have HY := Lib.hid hye
            clear hye
            have d0 : w1.cell? ⟨b, o + (k - 1) * 8, none⟩ = some (.int .i64 y.id) := by rw [Ext.cell E1 hb]; exact hcell' 0 _ rfl
            clear hcell' hb'
            have HIY := Lib.hid (idAt_of hk1 HY.out)
            by_cases hle : x.id ≤ y.id
            · have HE := Lib.hid (show idBad cs k = true by simp only [idBad, HI.out, HIY.out, hi]; simp [hle]; omega)
              (go_wp2_with fail; refine wp_region_ext (by kernel_rfl) (by kernel_rfl) ?_; (repeat (first | go_big_quiet_step ((first | (go_at_call 51; exact calls_later_same (spec_l1In_any _ _ _ _ )))) | quiet_step ((first | (go_at_call 51; exact calls_later_same (spec_l1In_any _ _ _ _ )))))); refine wpQuiet_nil ?_; intro wq hbq; have hcq := Ext.cells hbq; have hzq := Ext.frozens hbq; have hsq := Ext.lts hbq)
              have HV := Lib.hid (show idsB cs = false by rw [idsB, noN_found hlt HE.out]; rfl)
              go_wp2
              go_ret
              exact ⟨by rw [HV.out]; rfl, E1.trans hbq⟩
            · have HE := Lib.hid (show idBad cs k = false by simp only [idBad, HI.out, HIY.out, hi]; simp [hle])
              (go_wp2_with fail; refine wp_region_ext (by kernel_rfl) (by kernel_rfl) ?_; (repeat (first | go_big_quiet_step ((first | (go_at_call 51; exact calls_later_same (spec_l1In_any _ _ _ _ )))) | quiet_step ((first | (go_at_call 51; exact calls_later_same (spec_l1In_any _ _ _ _ )))))); refine wpQuiet_nil ?_; intro wq hbq; have hcq := Ext.cells hbq; have hzq := Ext.frozens hbq; have hsq := Ext.lts hbq)
              go_wp2
              go_roundw
              case rel => exact ⟨k + 1, by omega, by go_num, by rw [HTS.out, HT.out]; first | done | go_num | (simp; done), all_succ hq.out HE.out, D1.trans hbq⟩
              case measure => simp [intOf]; omega
    · obtain rfl : k = cs.length := by omega
      have HALL := Lib.hid ((noN_iff (idBad cs) _).2 hq.out)
      have HV := Lib.hid (show idsB cs = inR cs.length 1 24 by simp [idsB, HALL.out])
      go_wp2_with fail
      refine (spec_l1In_any _ _ _ _).mono ?_
      rintro e w1 ⟨rfl, rfl⟩
      go_wp2
      go_ret
      exact ⟨by rw [HV.out]; rfl, hxw⟩
theorem spec_vaTree_any3 (n : ByteArray) (cv fv : Value) (d : Int) (cs : List Cls) (w : World) (hc : RdC w cv cs) (hcl : cs.length ≤ 1048576) :
    Calls Tryd.prog 66 #[cfgV n cv fv d, .int .i64 3] w fun e w' => e = .returned (.bool (parB cs)) ∧ Ext w w' := by
  have HC := Lib.hid hc
  obtain ⟨CA, cc, rfl, hcc, hrc⟩ := hc
  have HR := Lib.hid hrc
  clear hrc
  have E0 := (Ext.refl w).alloc (.cells #[.string n, .slice CA cs.length cc, fv, .int .i64 d] 33)
  go_enter Tryd.func66, Tryd.ntmps66
  go_wp2
  go_loopw [13, 5] (fun t s wr => ∃ k : Nat, k ≤ cs.length ∧ t = .int .i64 (k : Int) ∧ s = .int .i64 (topsN cs k) ∧ Hid (∀ j, j < k → bpP cs j = false) ∧ Ext (w.alloc (.cells #[.string n, .slice CA cs.length cc, fv, .int .i64 d] 33)) wr) (fun t _ _ => cs.length - (intOf t).toNat)
  case atStart => exact ⟨0, Nat.zero_le _, rfl, rfl, fun j hj => absurd hj (Nat.not_lt_zero _), Ext.refl _⟩
  case round =>
    obtain ⟨k, hk, rfl, rfl, hq, hx⟩ := hrel
    have hxw := Ext.trans ((Ext.refl w).alloc (.cells #[.string n, .slice CA cs.length cc, fv, .int .i64 d] 33)) hx
    have BX := Lib.hid ((Box.new w n (.slice CA cs.length cc) fv d 33).ext hx)
    obtain ⟨q0, q1, q2, q3, q4⟩ := BX.out
    by_cases hlt : k < cs.length
    · have HEQ := Lib.hid (List.getElem?_eq_getElem hlt)
      obtain ⟨b, o, hCA, hb, hcell⟩ := HR.out k cs[k] (List.getElem?_eq_getElem hlt)
      obtain ⟨x, hxe⟩ : ∃ x, x = cs[k] := ⟨_, rfl⟩
      rw [← hxe] at hcell
      have HX := Lib.hid hxe
      clear hxe
      subst hCA
      have c0 : wr.cell? ⟨b, o + k * 8, none⟩ = some (.int .i64 x.id) := by rw [Ext.cell hxw hb]; exact hcell 0 _ rfl
      have c1 : wr.cell? ⟨b, o + k * 8 + 1, none⟩ = some (.int .i64 x.parent) := by rw [Ext.cell hxw hb]; exact hcell 1 _ rfl
      have c2 : wr.cell? ⟨b, o + k * 8 + 2, none⟩ = some (.int .i64 x.rate) := by rw [Ext.cell hxw hb]; exact hcell 2 _ rfl
      have c3 : wr.cell? ⟨b, o + k * 8 + 3, none⟩ = some (.int .i64 x.ceil) := by rw [Ext.cell hxw hb]; exact hcell 3 _ rfl
      have c4 : wr.cell? ⟨b, o + k * 8 + 4, none⟩ = some (.int .i64 x.burst) := by rw [Ext.cell hxw hb]; exact hcell 4 _ rfl
      have c5 : wr.cell? ⟨b, o + k * 8 + 5, none⟩ = some (.int .i64 x.cburst) := by rw [Ext.cell hxw hb]; exact hcell 5 _ rfl
      have c6 : wr.cell? ⟨b, o + k * 8 + 6, none⟩ = some (.int .i64 x.prio) := by rw [Ext.cell hxw hb]; exact hcell 6 _ rfl
      have c7 : wr.cell? ⟨b, o + k * 8 + 7, none⟩ = some (.int .i64 x.limit) := by rw [Ext.cell hxw hb]; exact hcell 7 _ rfl
      have z0 : b < wr.heap.size := Ext.lts hxw _ hb
      have z1 : b < wr.heap.size + 1 := by omega
      have q5 : w.heap.size < wr.heap.size + 1 := by omega
      have HTS := Lib.hid (topsN_succ cs k)
      have HTP := Lib.hid (show topP cs k = (x.parent == 0) by rw [topP, parAt_of hlt HX.out])
      have hb0 := (topsN_bd cs k).1
      have hb1 : topsN cs k ≤ 1048576 := by have := (topsN_bd cs k).2; omega
      generalize topsN cs k = S at *
      clear hcell
      by_cases hp : x.parent = 0
      · have HT := Lib.hid (show topP cs k = true by rw [HTP.out]; simp [hp])
        go_wp2_with fail
        refine (spec_vaWay_any n _ fv d k cs _ (HC.out.ext (hxw.alloc _)) hlt (by omega)).mono ?_
        rintro e w1 ⟨rfl, F1⟩
        have D1 := (hx.alloc _).trans F1
        have E1 := (hxw.alloc _).trans F1
        have l0 : w1.cell? ⟨wr.heap.size, 0, none⟩ = some (.int .i64 x.id) := (Ext.cell F1 (by simp)).trans (by simp)
        have l1 : w1.cell? ⟨wr.heap.size, 1, none⟩ = some (.int .i64 x.parent) := (Ext.cell F1 (by simp)).trans (by simp; try exact hp.symm)
        have BX1 := Lib.hid (BX.out.ext (((Ext.refl wr).alloc _).trans F1))
        clear c0 c1 c2 c3 c4 c5 c6 c7 q0 q1 q2 q3 q4
        obtain ⟨q0, q1, q2, q3, q4⟩ := BX1.out
        have z2 : b < w1.heap.size := Ext.lts E1 _ hb
        have z3 : wr.heap.size < w1.heap.size := Ext.lts F1 _ (by simp)
        go_wp2_with fail
        (go_wp2_with fail; refine wp_region_ext (by kernel_rfl) (by kernel_rfl) ?_; (repeat (first | go_big_quiet_step (fail) | quiet_step (fail))); refine wpQuiet_nil ?_; intro wq hbq; have hcq := Ext.cells hbq; have hzq := Ext.frozens hbq; have hsq := Ext.lts hbq)
        have HE := Lib.hid (show bpP cs k = false by rw [show bpP cs k = _ from clsAt_of hlt HX.out _, hp]; rfl)
        go_wp2
        go_roundw
        case rel => exact ⟨k + 1, by omega, by go_num, by rw [HTS.out, HT.out]; first | done | go_num | (simp; done), all_succ hq.out HE.out, D1.trans hbq⟩
        case measure => simp [intOf]; omega
      · have HT := Lib.hid (show topP cs k = false by rw [HTP.out]; simp [hp])
        have hp' : (x.parent == 0) = false := by simp [hp]
        go_wp2_with fail
        refine (spec_vaWay_any n _ fv d k cs _ (HC.out.ext (hxw.alloc _)) hlt (by omega)).mono ?_
        rintro e w1 ⟨rfl, F1⟩
        have D1 := (hx.alloc _).trans F1
        have E1 := (hxw.alloc _).trans F1
        have l0 : w1.cell? ⟨wr.heap.size, 0, none⟩ = some (.int .i64 x.id) := (Ext.cell F1 (by simp)).trans (by simp)
        have l1 : w1.cell? ⟨wr.heap.size, 1, none⟩ = some (.int .i64 x.parent) := (Ext.cell F1 (by simp)).trans (by simp; try exact hp.symm)
        have BX1 := Lib.hid (BX.out.ext (((Ext.refl wr).alloc _).trans F1))
        clear c0 c1 c2 c3 c4 c5 c6 c7 q0 q1 q2 q3 q4
        obtain ⟨q0, q1, q2, q3, q4⟩ := BX1.out
        have z2 : b < w1.heap.size := Ext.lts E1 _ hb
        have z3 : wr.heap.size < w1.heap.size := Ext.lts F1 _ (by simp)
        go_wp2_with fail
        (go_wp2_with fail; refine wp_region_ext (by kernel_rfl) (by kernel_rfl) ?_; (repeat (first | go_big_quiet_step (fail) | quiet_step (fail))); refine wpQuiet_nil ?_; intro wq hbq; have hcq := Ext.cells hbq; have hzq := Ext.frozens hbq; have hsq := Ext.lts hbq)
        have E2 := E1.trans hbq
        have D2 := D1.trans hbq
        have BX2 := Lib.hid (BX1.out.ext hbq)
        have l12 : wq.cell? ⟨wr.heap.size, 1, none⟩ = some (.int .i64 x.parent) := (Ext.cell hbq z3).trans l1
        have hp0 : (x.parent != 0) = true := by simp [hp]
        have HBP := Lib.hid (show bpP cs k = decide (findI cs x.parent < 0) by rw [show bpP cs k = _ from clsAt_of hlt HX.out _, hp0]; rfl)
        clear q0 q1 q2 q3 q4 l0 l1 hcq hzq hsq
        obtain ⟨q0, q1, q2, q3, q4⟩ := BX2.out
        go_wp2_with fail
        refine (spec_cfFind_any n _ fv d x.parent cs _ (HC.out.ext E2) (by omega)).mono ?_
        rintro e w3 ⟨rfl, F3⟩
        clear q0 q1 q2 q3 q4 l12
        by_cases hneg : findI cs x.parent < 0
        · have HE := Lib.hid (show bpP cs k = true by rw [HBP.out]; exact decide_eq_true hneg)
          have HV := Lib.hid (show parB cs = false by rw [parB, noN_found hlt HE.out, Bool.and_false])
          go_wp2
          go_ret
          exact ⟨by rw [HV.out]; rfl, E2.trans F3⟩
        · have HE := Lib.hid (show bpP cs k = false by rw [HBP.out]; exact decide_eq_false hneg)
          go_wp2
          go_roundw
          case rel => exact ⟨k + 1, by omega, by go_num, by rw [HTS.out, HT.out]; first | done | go_num | (simp; done), all_succ hq.out HE.out, D2.trans F3⟩
          case measure => simp [intOf]; omega
    · obtain rfl : k = cs.length := by omega
      have HALL := Lib.hid ((noN_iff (bpP cs) _).2 hq.out)
      have HV := Lib.hid (show parB cs = (topsN cs cs.length == 1) by rw [parB, HALL.out, Bool.and_true])
      go_wp2
      go_ret
      exact ⟨by rw [HV.out]; rfl, hxw⟩
theorem spec_vaTree_any4 (n : ByteArray) (cv fv : Value) (d : Int) (cs : List Cls) (w : World) (hc : RdC w cv cs) (hcl : cs.length ≤ 1048576) :
    Calls Tryd.prog 66 #[cfgV n cv fv d, .int .i64 4] w fun e w' => e = .returned (.bool (wayB cs)) ∧ Ext w w' := by
  have HC := Lib.hid hc
  obtain ⟨CA, cc, rfl, hcc, hrc⟩ := hc
  have HR := Lib.hid hrc
  clear hrc
  have E0 := (Ext.refl w).alloc (.cells #[.string n, .slice CA cs.length cc, fv, .int .i64 d] 33)
  go_enter Tryd.func66, Tryd.ntmps66
  go_wp2
  go_loopw [13, 5] (fun t s wr => ∃ k : Nat, k ≤ cs.length ∧ t = .int .i64 (k : Int) ∧ s = .int .i64 (topsN cs k) ∧ Hid (∀ j, j < k → wayBad cs j = false) ∧ Ext (w.alloc (.cells #[.string n, .slice CA cs.length cc, fv, .int .i64 d] 33)) wr) (fun t _ _ => cs.length - (intOf t).toNat)
  case atStart => exact ⟨0, Nat.zero_le _, rfl, rfl, fun j hj => absurd hj (Nat.not_lt_zero _), Ext.refl _⟩
  case round =>
    obtain ⟨k, hk, rfl, rfl, hq, hx⟩ := hrel
    have hxw := Ext.trans ((Ext.refl w).alloc (.cells #[.string n, .slice CA cs.length cc, fv, .int .i64 d] 33)) hx
    have BX := Lib.hid ((Box.new w n (.slice CA cs.length cc) fv d 33).ext hx)
    obtain ⟨q0, q1, q2, q3, q4⟩ := BX.out
    by_cases hlt : k < cs.length
    · have HEQ := Lib.hid (List.getElem?_eq_getElem hlt)
      obtain ⟨b, o, hCA, hb, hcell⟩ := HR.out k cs[k] (List.getElem?_eq_getElem hlt)
      obtain ⟨x, hxe⟩ : ∃ x, x = cs[k] := ⟨_, rfl⟩
      rw [← hxe] at hcell
      have HX := Lib.hid hxe
      clear hxe
      subst hCA
      have c0 : wr.cell? ⟨b, o + k * 8, none⟩ = some (.int .i64 x.id) := by rw [Ext.cell hxw hb]; exact hcell 0 _ rfl
      have c1 : wr.cell? ⟨b, o + k * 8 + 1, none⟩ = some (.int .i64 x.parent) := by rw [Ext.cell hxw hb]; exact hcell 1 _ rfl
      have c2 : wr.cell? ⟨b, o + k * 8 + 2, none⟩ = some (.int .i64 x.rate) := by rw [Ext.cell hxw hb]; exact hcell 2 _ rfl
      have c3 : wr.cell? ⟨b, o + k * 8 + 3, none⟩ = some (.int .i64 x.ceil) := by rw [Ext.cell hxw hb]; exact hcell 3 _ rfl
      have c4 : wr.cell? ⟨b, o + k * 8 + 4, none⟩ = some (.int .i64 x.burst) := by rw [Ext.cell hxw hb]; exact hcell 4 _ rfl
      have c5 : wr.cell? ⟨b, o + k * 8 + 5, none⟩ = some (.int .i64 x.cburst) := by rw [Ext.cell hxw hb]; exact hcell 5 _ rfl
      have c6 : wr.cell? ⟨b, o + k * 8 + 6, none⟩ = some (.int .i64 x.prio) := by rw [Ext.cell hxw hb]; exact hcell 6 _ rfl
      have c7 : wr.cell? ⟨b, o + k * 8 + 7, none⟩ = some (.int .i64 x.limit) := by rw [Ext.cell hxw hb]; exact hcell 7 _ rfl
      have z0 : b < wr.heap.size := Ext.lts hxw _ hb
      have z1 : b < wr.heap.size + 1 := by omega
      have q5 : w.heap.size < wr.heap.size + 1 := by omega
      have HTS := Lib.hid (topsN_succ cs k)
      have HTP := Lib.hid (show topP cs k = (x.parent == 0) by rw [topP, parAt_of hlt HX.out])
      have hb0 := (topsN_bd cs k).1
      have hb1 : topsN cs k ≤ 1048576 := by have := (topsN_bd cs k).2; omega
      generalize topsN cs k = S at *
      clear hcell
      by_cases hp : x.parent = 0
      · have HT := Lib.hid (show topP cs k = true by rw [HTP.out]; simp [hp])
        go_wp2_with fail
        refine (spec_vaWay_any n _ fv d k cs _ (HC.out.ext (hxw.alloc _)) hlt (by omega)).mono ?_
        rintro e w1 ⟨rfl, F1⟩
        have D1 := (hx.alloc _).trans F1
        have E1 := (hxw.alloc _).trans F1
        have l0 : w1.cell? ⟨wr.heap.size, 0, none⟩ = some (.int .i64 x.id) := (Ext.cell F1 (by simp)).trans (by simp)
        have l1 : w1.cell? ⟨wr.heap.size, 1, none⟩ = some (.int .i64 x.parent) := (Ext.cell F1 (by simp)).trans (by simp; try exact hp.symm)
        have BX1 := Lib.hid (BX.out.ext (((Ext.refl wr).alloc _).trans F1))
        clear c0 c1 c2 c3 c4 c5 c6 c7 q0 q1 q2 q3 q4
        obtain ⟨q0, q1, q2, q3, q4⟩ := BX1.out
        have z2 : b < w1.heap.size := Ext.lts E1 _ hb
        have z3 : wr.heap.size < w1.heap.size := Ext.lts F1 _ (by simp)
        go_wp2_with fail
        (go_wp2_with fail; refine wp_region_ext (by kernel_rfl) (by kernel_rfl) ?_; (repeat (first | go_big_quiet_step (fail) | quiet_step (fail))); refine wpQuiet_nil ?_; intro wq hbq; have hcq := Ext.cells hbq; have hzq := Ext.frozens hbq; have hsq := Ext.lts hbq)
        have E2 := E1.trans hbq
        have D2 := D1.trans hbq
        have BX2 := Lib.hid (BX1.out.ext hbq)
        clear q0 q1 q2 q3 q4 l0 l1 hcq hzq hsq
        obtain ⟨q0, q1, q2, q3, q4⟩ := BX2.out
        obtain ⟨ha, hb0, _, hst⟩ := wayN_spec (upF_bd cs) hlt
        obtain ⟨u, hu⟩ := Int.eq_ofNat_of_zero_le (stopU_false (hst (wayN (upF cs) k cs.length - 1) (by omega))).1
        have hul : u < cs.length := by have := itU_bd (upF_bd cs) hlt (wayN (upF cs) k cs.length - 1); omega
        have HWB := Lib.hid (show wayBad cs k = (deepP cs k || (parAt cs u != 0)) by simp only [wayBad, hu, Int.toNat_natCast])
        have HDI := Lib.hid (deepP_in cs k hlt)
        go_wp2_with fail
        refine (spec_l1In_any _ _ _ _).mono ?_
        rintro e w3 ⟨rfl, rfl⟩
        cases he : inR (wayA (upF cs) k cs.length) 1 8
        · have HE := Lib.hid (show wayBad cs k = true by rw [HWB.out, ← HDI.out, he]; rfl)
          have HV := Lib.hid (show wayB cs = false from noN_found hlt HE.out)
          go_wp2
          go_ret
          exact ⟨by rw [HV.out]; rfl, E2⟩
        · have HDF := Lib.hid (show deepP cs k = false by rw [← HDI.out, he]; rfl)
          have HLA := Lib.hid (show lastA (upF cs) k cs.length = (u : Int) by
            have h1 := HDF.out
            simp only [deepP, Bool.or_eq_false_iff, Bool.not_eq_false'] at h1
            rw [lastA, h1.1, if_pos rfl, hu])
          rw [HLA.out]
          obtain ⟨b', o', hAA, hb', hcell⟩ := HR.out u cs[u] (List.getElem?_eq_getElem hul)
          simp only [Option.some.injEq, Addr.mk.injEq, and_true] at hAA
          obtain ⟨rfl, rfl⟩ := hAA
          have HPA := Lib.hid (parAt_is cs u hul)
          generalize cs[u] = y at hcell HPA
          have d1 : wq.cell? ⟨b, o + u * 8 + 1, none⟩ = some (.int .i64 y.parent) := by rw [Ext.cell E2 hb]; exact hcell 1 _ rfl
          clear hcell hst hu ha
          by_cases hp2 : y.parent = 0
          · have HE := Lib.hid (show wayBad cs k = false by rw [HWB.out, HDF.out, HPA.out, hp2]; rfl)
            have hp2' : (y.parent != 0) = false := by simp [hp2]
            go_wp2
            go_roundw
            case rel => exact ⟨k + 1, by omega, by go_num, by rw [HTS.out, HT.out]; first | done | go_num | (simp; done), all_succ hq.out HE.out, D2⟩
            case measure => simp [intOf]; omega
          · have hp2' : (y.parent != 0) = true := by simp [hp2]
            have HE := Lib.hid (show wayBad cs k = true by rw [HWB.out, HPA.out, hp2']; simp)
            have HV := Lib.hid (show wayB cs = false from noN_found hlt HE.out)
            go_wp2
            go_ret
            exact ⟨by rw [HV.out]; rfl, E2⟩
      · have HT := Lib.hid (show topP cs k = false by rw [HTP.out]; simp [hp])
        have hp' : (x.parent == 0) = false := by simp [hp]
        go_wp2_with fail
        refine (spec_vaWay_any n _ fv d k cs _ (HC.out.ext (hxw.alloc _)) hlt (by omega)).mono ?_
        rintro e w1 ⟨rfl, F1⟩
        have D1 := (hx.alloc _).trans F1
        have E1 := (hxw.alloc _).trans F1
        have l0 : w1.cell? ⟨wr.heap.size, 0, none⟩ = some (.int .i64 x.id) := (Ext.cell F1 (by simp)).trans (by simp)
        have l1 : w1.cell? ⟨wr.heap.size, 1, none⟩ = some (.int .i64 x.parent) := (Ext.cell F1 (by simp)).trans (by simp; try exact hp.symm)
        have BX1 := Lib.hid (BX.out.ext (((Ext.refl wr).alloc _).trans F1))
        clear c0 c1 c2 c3 c4 c5 c6 c7 q0 q1 q2 q3 q4
        obtain ⟨q0, q1, q2, q3, q4⟩ := BX1.out
        have z2 : b < w1.heap.size := Ext.lts E1 _ hb
        have z3 : wr.heap.size < w1.heap.size := Ext.lts F1 _ (by simp)
        go_wp2_with fail
        (go_wp2_with fail; refine wp_region_ext (by kernel_rfl) (by kernel_rfl) ?_; (repeat (first | go_big_quiet_step (fail) | quiet_step (fail))); refine wpQuiet_nil ?_; intro wq hbq; have hcq := Ext.cells hbq; have hzq := Ext.frozens hbq; have hsq := Ext.lts hbq)
        have E2 := E1.trans hbq
        have D2 := D1.trans hbq
        have BX2 := Lib.hid (BX1.out.ext hbq)
        clear q0 q1 q2 q3 q4 l0 l1 hcq hzq hsq
        obtain ⟨q0, q1, q2, q3, q4⟩ := BX2.out
        obtain ⟨ha, hb0, _, hst⟩ := wayN_spec (upF_bd cs) hlt
        obtain ⟨u, hu⟩ := Int.eq_ofNat_of_zero_le (stopU_false (hst (wayN (upF cs) k cs.length - 1) (by omega))).1
        have hul : u < cs.length := by have := itU_bd (upF_bd cs) hlt (wayN (upF cs) k cs.length - 1); omega
        have HWB := Lib.hid (show wayBad cs k = (deepP cs k || (parAt cs u != 0)) by simp only [wayBad, hu, Int.toNat_natCast])
        have HDI := Lib.hid (deepP_in cs k hlt)
        go_wp2_with fail
        refine (spec_l1In_any _ _ _ _).mono ?_
        rintro e w3 ⟨rfl, rfl⟩
        cases he : inR (wayA (upF cs) k cs.length) 1 8
        · have HE := Lib.hid (show wayBad cs k = true by rw [HWB.out, ← HDI.out, he]; rfl)
          have HV := Lib.hid (show wayB cs = false from noN_found hlt HE.out)
          go_wp2
          go_ret
          exact ⟨by rw [HV.out]; rfl, E2⟩
        · have HDF := Lib.hid (show deepP cs k = false by rw [← HDI.out, he]; rfl)
          have HLA := Lib.hid (show lastA (upF cs) k cs.length = (u : Int) by
            have h1 := HDF.out
            simp only [deepP, Bool.or_eq_false_iff, Bool.not_eq_false'] at h1
            rw [lastA, h1.1, if_pos rfl, hu])
          rw [HLA.out]
          obtain ⟨b', o', hAA, hb', hcell⟩ := HR.out u cs[u] (List.getElem?_eq_getElem hul)
          simp only [Option.some.injEq, Addr.mk.injEq, and_true] at hAA
          obtain ⟨rfl, rfl⟩ := hAA
          have HPA := Lib.hid (parAt_is cs u hul)
          generalize cs[u] = y at hcell HPA
          have d1 : wq.cell? ⟨b, o + u * 8 + 1, none⟩ = some (.int .i64 y.parent) := by rw [Ext.cell E2 hb]; exact hcell 1 _ rfl
          clear hcell hst hu ha
          by_cases hp2 : y.parent = 0
          · have HE := Lib.hid (show wayBad cs k = false by rw [HWB.out, HDF.out, HPA.out, hp2]; rfl)
            have hp2' : (y.parent != 0) = false := by simp [hp2]
            go_wp2
            go_roundw
            case rel => exact ⟨k + 1, by omega, by go_num, by rw [HTS.out, HT.out]; first | done | go_num | (simp; done), all_succ hq.out HE.out, D2⟩
            case measure => simp [intOf]; omega
          · have hp2' : (y.parent != 0) = true := by simp [hp2]
            have HE := Lib.hid (show wayBad cs k = true by rw [HWB.out, HPA.out, hp2']; simp)
            have HV := Lib.hid (show wayB cs = false from noN_found hlt HE.out)
            go_wp2
            go_ret
            exact ⟨by rw [HV.out]; rfl, E2⟩
    · obtain rfl : k = cs.length := by omega
      have HALL := Lib.hid ((noN_iff (wayBad cs) _).2 hq.out)
      have HV := Lib.hid (show wayB cs = true from HALL.out)
      go_wp2
      go_ret
      exact ⟨by rw [HV.out]; rfl, hxw⟩
theorem spec_vaClasses_any5 (n : ByteArray) (cv fv : Value) (d : Int) (cs : List Cls) (w : World) (hc : RdC w cv cs) (hcl : cs.length ≤ 1048576) :
    Calls Tryd.prog 69 #[cfgV n cv fv d, .int .i64 5] w fun e w' => e = .returned (.bool (noN (rateBad cs) cs.length)) ∧ Ext w w' := by
  have HC := Lib.hid hc
  obtain ⟨CA, cc, rfl, hcc, hrc⟩ := hc
  have HR := Lib.hid hrc
  clear hrc
  have E0 := (Ext.refl w).alloc (.cells #[.string n, .slice CA cs.length cc, fv, .int .i64 d] 33)
  go_enter Tryd.func69, Tryd.ntmps69
  go_wp2
  go_loopw [10] (fun t wr => ∃ k : Nat, k ≤ cs.length ∧ t = .int .i64 (k : Int) ∧ Hid (∀ j, j < k → rateBad cs j = false) ∧ Ext (w.alloc (.cells #[.string n, .slice CA cs.length cc, fv, .int .i64 d] 33)) wr) (fun t _ => cs.length - (intOf t).toNat)
  case atStart => exact ⟨0, Nat.zero_le _, rfl, fun j hj => absurd hj (Nat.not_lt_zero _), Ext.refl _⟩
  case round =>
    obtain ⟨k, hk, rfl, hq, hx⟩ := hrel
    have hxw := Ext.trans ((Ext.refl w).alloc (.cells #[.string n, .slice CA cs.length cc, fv, .int .i64 d] 33)) hx
    have BX := Lib.hid ((Box.new w n (.slice CA cs.length cc) fv d 33).ext hx)
    obtain ⟨q0, q1, q2, q3, q4⟩ := BX.out
    by_cases hlt : k < cs.length
    · have HEQ := Lib.hid (List.getElem?_eq_getElem hlt)
      obtain ⟨b, o, hCA, hb, hcell⟩ := HR.out k cs[k] (List.getElem?_eq_getElem hlt)
      obtain ⟨x, hxe⟩ : ∃ x, x = cs[k] := ⟨_, rfl⟩
      rw [← hxe] at hcell
      have HX := Lib.hid hxe
      clear hxe
      subst hCA
      have c0 : wr.cell? ⟨b, o + k * 8, none⟩ = some (.int .i64 x.id) := by rw [Ext.cell hxw hb]; exact hcell 0 _ rfl
      have c1 : wr.cell? ⟨b, o + k * 8 + 1, none⟩ = some (.int .i64 x.parent) := by rw [Ext.cell hxw hb]; exact hcell 1 _ rfl
      have c2 : wr.cell? ⟨b, o + k * 8 + 2, none⟩ = some (.int .i64 x.rate) := by rw [Ext.cell hxw hb]; exact hcell 2 _ rfl
      have c3 : wr.cell? ⟨b, o + k * 8 + 3, none⟩ = some (.int .i64 x.ceil) := by rw [Ext.cell hxw hb]; exact hcell 3 _ rfl
      have c4 : wr.cell? ⟨b, o + k * 8 + 4, none⟩ = some (.int .i64 x.burst) := by rw [Ext.cell hxw hb]; exact hcell 4 _ rfl
      have c5 : wr.cell? ⟨b, o + k * 8 + 5, none⟩ = some (.int .i64 x.cburst) := by rw [Ext.cell hxw hb]; exact hcell 5 _ rfl
      have c6 : wr.cell? ⟨b, o + k * 8 + 6, none⟩ = some (.int .i64 x.prio) := by rw [Ext.cell hxw hb]; exact hcell 6 _ rfl
      have c7 : wr.cell? ⟨b, o + k * 8 + 7, none⟩ = some (.int .i64 x.limit) := by rw [Ext.cell hxw hb]; exact hcell 7 _ rfl
      have z0 : b < wr.heap.size := Ext.lts hxw _ hb
      have z1 : b < wr.heap.size + 1 := by omega
      have q5 : w.heap.size < wr.heap.size + 1 := by omega
      have HRB := Lib.hid (show rateBad cs k = !rateB x from clsAt_of hlt HX.out _)
      have HRD := Lib.hid (show rateB x = (inR x.rate 1 100000 && inR x.ceil x.rate 100000) from rfl)
      clear hcell
      cases hA : inR x.rate 1 100000
      · have HE := Lib.hid (show rateBad cs k = true by rw [HRB.out, HRD.out, hA]; rfl)
        have HV := Lib.hid (noN_found hlt HE.out)
        go_wp2_with (go_at_call 51; refine (spec_l1In_any _ _ _ _ ).mono ?_; rintro e w' ⟨rfl, rfl⟩)
        go_ret
        exact ⟨by rw [HV.out]; rfl, hxw.alloc _⟩
      · cases hB : inR x.ceil x.rate 100000
        · have HE := Lib.hid (show rateBad cs k = true by rw [HRB.out, HRD.out, hA, hB]; rfl)
          have HV := Lib.hid (noN_found hlt HE.out)
          go_wp2_with (go_at_call 51; refine (spec_l1In_any _ _ _ _ ).mono ?_; rintro e w' ⟨rfl, rfl⟩)
          go_ret
          exact ⟨by rw [HV.out]; rfl, hxw.alloc _⟩
        · have HE := Lib.hid (show rateBad cs k = false by rw [HRB.out, HRD.out, hA, hB]; rfl)
          go_wp2_with (go_at_call 51; refine (spec_l1In_any _ _ _ _ ).mono ?_; rintro e w' ⟨rfl, rfl⟩)
          go_roundw
          case rel => exact ⟨k + 1, by omega, by go_num, all_succ hq.out HE.out, hx.alloc _⟩
          case measure => simp [intOf]; omega
    · obtain rfl : k = cs.length := by omega
      have HALL := Lib.hid ((noN_iff (rateBad cs) _).2 hq.out)
      have HV := Lib.hid (show noN (rateBad cs) cs.length = true from HALL.out)
      go_wp2
      go_ret
      exact ⟨by rw [HV.out]; rfl, hxw⟩
theorem spec_vaClasses_any7 (n : ByteArray) (cv fv : Value) (d : Int) (cs : List Cls) (w : World) (hc : RdC w cv cs) (hcl : cs.length ≤ 1048576) :
    Calls Tryd.prog 69 #[cfgV n cv fv d, .int .i64 7] w fun e w' => e = .returned (.bool (noN (burstBad cs) cs.length)) ∧ Ext w w' := by
  have HC := Lib.hid hc
  obtain ⟨CA, cc, rfl, hcc, hrc⟩ := hc
  have HR := Lib.hid hrc
  clear hrc
  have E0 := (Ext.refl w).alloc (.cells #[.string n, .slice CA cs.length cc, fv, .int .i64 d] 33)
  go_enter Tryd.func69, Tryd.ntmps69
  go_wp2
  go_loopw [10] (fun t wr => ∃ k : Nat, k ≤ cs.length ∧ t = .int .i64 (k : Int) ∧ Hid (∀ j, j < k → burstBad cs j = false) ∧ Ext (w.alloc (.cells #[.string n, .slice CA cs.length cc, fv, .int .i64 d] 33)) wr) (fun t _ => cs.length - (intOf t).toNat)
  case atStart => exact ⟨0, Nat.zero_le _, rfl, fun j hj => absurd hj (Nat.not_lt_zero _), Ext.refl _⟩
  case round =>
    obtain ⟨k, hk, rfl, hq, hx⟩ := hrel
    have hxw := Ext.trans ((Ext.refl w).alloc (.cells #[.string n, .slice CA cs.length cc, fv, .int .i64 d] 33)) hx
    have BX := Lib.hid ((Box.new w n (.slice CA cs.length cc) fv d 33).ext hx)
    obtain ⟨q0, q1, q2, q3, q4⟩ := BX.out
    by_cases hlt : k < cs.length
    · have HEQ := Lib.hid (List.getElem?_eq_getElem hlt)
      obtain ⟨b, o, hCA, hb, hcell⟩ := HR.out k cs[k] (List.getElem?_eq_getElem hlt)
      obtain ⟨x, hxe⟩ : ∃ x, x = cs[k] := ⟨_, rfl⟩
      rw [← hxe] at hcell
      have HX := Lib.hid hxe
      clear hxe
      subst hCA
      have c0 : wr.cell? ⟨b, o + k * 8, none⟩ = some (.int .i64 x.id) := by rw [Ext.cell hxw hb]; exact hcell 0 _ rfl
      have c1 : wr.cell? ⟨b, o + k * 8 + 1, none⟩ = some (.int .i64 x.parent) := by rw [Ext.cell hxw hb]; exact hcell 1 _ rfl
      have c2 : wr.cell? ⟨b, o + k * 8 + 2, none⟩ = some (.int .i64 x.rate) := by rw [Ext.cell hxw hb]; exact hcell 2 _ rfl
      have c3 : wr.cell? ⟨b, o + k * 8 + 3, none⟩ = some (.int .i64 x.ceil) := by rw [Ext.cell hxw hb]; exact hcell 3 _ rfl
      have c4 : wr.cell? ⟨b, o + k * 8 + 4, none⟩ = some (.int .i64 x.burst) := by rw [Ext.cell hxw hb]; exact hcell 4 _ rfl
      have c5 : wr.cell? ⟨b, o + k * 8 + 5, none⟩ = some (.int .i64 x.cburst) := by rw [Ext.cell hxw hb]; exact hcell 5 _ rfl
      have c6 : wr.cell? ⟨b, o + k * 8 + 6, none⟩ = some (.int .i64 x.prio) := by rw [Ext.cell hxw hb]; exact hcell 6 _ rfl
      have c7 : wr.cell? ⟨b, o + k * 8 + 7, none⟩ = some (.int .i64 x.limit) := by rw [Ext.cell hxw hb]; exact hcell 7 _ rfl
      have z0 : b < wr.heap.size := Ext.lts hxw _ hb
      have z1 : b < wr.heap.size + 1 := by omega
      have q5 : w.heap.size < wr.heap.size + 1 := by omega
      have HRB := Lib.hid (show burstBad cs k = !burstB x from clsAt_of hlt HX.out _)
      have HRD := Lib.hid (show burstB x = (inR x.burst 1500 1000000 && inR x.cburst 1500 1000000 && inR x.prio 0 7) from rfl)
      clear hcell
      cases hA : inR x.burst 1500 1000000
      · have HE := Lib.hid (show burstBad cs k = true by rw [HRB.out, HRD.out, hA]; rfl)
        have HV := Lib.hid (noN_found hlt HE.out)
        go_wp2_with (go_at_call 51; refine (spec_l1In_any _ _ _ _ ).mono ?_; rintro e w' ⟨rfl, rfl⟩)
        go_ret
        exact ⟨by rw [HV.out]; rfl, hxw.alloc _⟩
      · cases hB : inR x.cburst 1500 1000000
        · have HE := Lib.hid (show burstBad cs k = true by rw [HRB.out, HRD.out, hA, hB]; rfl)
          have HV := Lib.hid (noN_found hlt HE.out)
          go_wp2_with (go_at_call 51; refine (spec_l1In_any _ _ _ _ ).mono ?_; rintro e w' ⟨rfl, rfl⟩)
          go_ret
          exact ⟨by rw [HV.out]; rfl, hxw.alloc _⟩
        · cases hC : inR x.prio 0 7
          · have HE := Lib.hid (show burstBad cs k = true by rw [HRB.out, HRD.out, hA, hB, hC]; rfl)
            have HV := Lib.hid (noN_found hlt HE.out)
            go_wp2_with (go_at_call 51; refine (spec_l1In_any _ _ _ _ ).mono ?_; rintro e w' ⟨rfl, rfl⟩)
            go_ret
            exact ⟨by rw [HV.out]; rfl, hxw.alloc _⟩
          · have HE := Lib.hid (show burstBad cs k = false by rw [HRB.out, HRD.out, hA, hB, hC]; rfl)
            go_wp2_with (go_at_call 51; refine (spec_l1In_any _ _ _ _ ).mono ?_; rintro e w' ⟨rfl, rfl⟩)
            go_roundw
            case rel => exact ⟨k + 1, by omega, by go_num, all_succ hq.out HE.out, hx.alloc _⟩
            case measure => simp [intOf]; omega
    · obtain rfl : k = cs.length := by omega
      have HALL := Lib.hid ((noN_iff (burstBad cs) _).2 hq.out)
      have HV := Lib.hid (show noN (burstBad cs) cs.length = true from HALL.out)
      go_wp2
      go_ret
      exact ⟨by rw [HV.out]; rfl, hxw⟩
theorem spec_vaClasses_any8 (n : ByteArray) (cv fv : Value) (d : Int) (cs : List Cls) (w : World) (hc : RdC w cv cs) (hcl : cs.length ≤ 1048576) :
    Calls Tryd.prog 69 #[cfgV n cv fv d, .int .i64 8] w fun e w' => e = .returned (.bool (noN (limBad cs) cs.length)) ∧ Ext w w' := by
  have HC := Lib.hid hc
  obtain ⟨CA, cc, rfl, hcc, hrc⟩ := hc
  have HR := Lib.hid hrc
  clear hrc
  have E0 := (Ext.refl w).alloc (.cells #[.string n, .slice CA cs.length cc, fv, .int .i64 d] 33)
  go_enter Tryd.func69, Tryd.ntmps69
  go_wp2
  go_loopw [10] (fun t wr => ∃ k : Nat, k ≤ cs.length ∧ t = .int .i64 (k : Int) ∧ Hid (∀ j, j < k → limBad cs j = false) ∧ Ext (w.alloc (.cells #[.string n, .slice CA cs.length cc, fv, .int .i64 d] 33)) wr) (fun t _ => cs.length - (intOf t).toNat)
  case atStart => exact ⟨0, Nat.zero_le _, rfl, fun j hj => absurd hj (Nat.not_lt_zero _), Ext.refl _⟩
  case round =>
    obtain ⟨k, hk, rfl, hq, hx⟩ := hrel
    have hxw := Ext.trans ((Ext.refl w).alloc (.cells #[.string n, .slice CA cs.length cc, fv, .int .i64 d] 33)) hx
    have BX := Lib.hid ((Box.new w n (.slice CA cs.length cc) fv d 33).ext hx)
    obtain ⟨q0, q1, q2, q3, q4⟩ := BX.out
    by_cases hlt : k < cs.length
    · have HEQ := Lib.hid (List.getElem?_eq_getElem hlt)
      obtain ⟨b, o, hCA, hb, hcell⟩ := HR.out k cs[k] (List.getElem?_eq_getElem hlt)
      obtain ⟨x, hxe⟩ : ∃ x, x = cs[k] := ⟨_, rfl⟩
      rw [← hxe] at hcell
      have HX := Lib.hid hxe
      clear hxe
      subst hCA
      have c0 : wr.cell? ⟨b, o + k * 8, none⟩ = some (.int .i64 x.id) := by rw [Ext.cell hxw hb]; exact hcell 0 _ rfl
      have c1 : wr.cell? ⟨b, o + k * 8 + 1, none⟩ = some (.int .i64 x.parent) := by rw [Ext.cell hxw hb]; exact hcell 1 _ rfl
      have c2 : wr.cell? ⟨b, o + k * 8 + 2, none⟩ = some (.int .i64 x.rate) := by rw [Ext.cell hxw hb]; exact hcell 2 _ rfl
      have c3 : wr.cell? ⟨b, o + k * 8 + 3, none⟩ = some (.int .i64 x.ceil) := by rw [Ext.cell hxw hb]; exact hcell 3 _ rfl
      have c4 : wr.cell? ⟨b, o + k * 8 + 4, none⟩ = some (.int .i64 x.burst) := by rw [Ext.cell hxw hb]; exact hcell 4 _ rfl
      have c5 : wr.cell? ⟨b, o + k * 8 + 5, none⟩ = some (.int .i64 x.cburst) := by rw [Ext.cell hxw hb]; exact hcell 5 _ rfl
      have c6 : wr.cell? ⟨b, o + k * 8 + 6, none⟩ = some (.int .i64 x.prio) := by rw [Ext.cell hxw hb]; exact hcell 6 _ rfl
      have c7 : wr.cell? ⟨b, o + k * 8 + 7, none⟩ = some (.int .i64 x.limit) := by rw [Ext.cell hxw hb]; exact hcell 7 _ rfl
      have z0 : b < wr.heap.size := Ext.lts hxw _ hb
      have z1 : b < wr.heap.size + 1 := by omega
      have q5 : w.heap.size < wr.heap.size + 1 := by omega
      have HLA := Lib.hid (show limAt cs k = x.limit by rw [limAt_is cs k hlt, HX.out])
      have HLB := Lib.hid (show limBad cs k = if leafB cs k then !inR (limAt cs k) 1 60 else limAt cs k != 0 from rfl)
      clear hcell
      go_wp2_with fail
      refine (spec_cfLeaf_any n _ fv d k cs _ (HC.out.ext (hxw.alloc _)) hlt (by omega)).mono ?_
      rintro e w3 ⟨rfl, F3⟩
      have D3 := (hx.alloc _).trans F3
      have E3 := (hxw.alloc _).trans F3
      have l73 : w3.cell? ⟨wr.heap.size, 7, none⟩ = some (.int .i64 x.limit) := (Ext.cell F3 (by simp)).trans (by simp)
      have B3 := Lib.hid (BX.out.ext (((Ext.refl wr).alloc _).trans F3))
      clear c0 c1 c2 c3 c4 c5 c6 c7 q0 q1 q2 q3 q4
      obtain ⟨q0, q1, q2, q3, q4⟩ := B3.out
      have z4 : wr.heap.size < w3.heap.size := Ext.lts F3 _ (by simp)
      cases hl : leafB cs k
      · have HLL := Lib.hid hl
        go_wp2_with fail
        refine (spec_cfLeaf_any n _ fv d k cs _ (HC.out.ext E3) hlt (by omega)).mono ?_
        rintro e w4 ⟨rfl, F4⟩
        have l74 : w4.cell? ⟨wr.heap.size, 7, none⟩ = some (.int .i64 x.limit) := (Ext.cell F4 z4).trans l73
        clear q0 q1 q2 q3 q4 l73
        rw [hl]
        by_cases hx0 : x.limit = 0
        · have HE := Lib.hid (show limBad cs k = false by rw [HLB.out, HLL.out, HLA.out, hx0]; rfl)
          have hx0' : (x.limit != 0) = false := by simp [hx0]
          go_wp2
          go_roundw
          case rel => exact ⟨k + 1, by omega, by go_num, all_succ hq.out HE.out, D3.trans F4⟩
          case measure => simp [intOf]; omega
        · have HE := Lib.hid (show limBad cs k = true by rw [HLB.out, HLL.out, HLA.out]; simp [hx0])
          have hx0' : (x.limit != 0) = true := by simp [hx0]
          have HV := Lib.hid (noN_found hlt HE.out)
          go_wp2
          go_ret
          exact ⟨by rw [HV.out]; rfl, E3.trans F4⟩
      · have HLL := Lib.hid hl
        go_wp2_with fail
        refine (spec_l1In_any _ _ _ _).mono ?_
        rintro e w4 ⟨rfl, rfl⟩
        cases hi : inR x.limit 1 60
        · have HE := Lib.hid (show limBad cs k = true by rw [HLB.out, HLL.out, HLA.out, hi]; rfl)
          have HV := Lib.hid (noN_found hlt HE.out)
          go_wp2
          go_ret
          exact ⟨by rw [HV.out]; rfl, E3⟩
        · have HE := Lib.hid (show limBad cs k = false by rw [HLB.out, HLL.out, HLA.out, hi]; rfl)
          go_wp2_with fail
          refine (spec_cfLeaf_any n _ fv d k cs _ (HC.out.ext E3) hlt (by omega)).mono ?_
          rintro e w4 ⟨rfl, F4⟩
          clear q0 q1 q2 q3 q4 l73
          rw [hl]
          go_wp2
          go_roundw
          case rel => exact ⟨k + 1, by omega, by go_num, all_succ hq.out HE.out, D3.trans F4⟩
          case measure => simp [intOf]; omega
    · obtain rfl : k = cs.length := by omega
      have HALL := Lib.hid ((noN_iff (limBad cs) _).2 hq.out)
      have HV := Lib.hid (show noN (limBad cs) cs.length = true from HALL.out)
      go_wp2
      go_ret
      exact ⟨by rw [HV.out]; rfl, hxw⟩
theorem spec_vaHolds_1 (n : ByteArray) (cv fv : Value) (d : Int) (cs : List Cls) (fs : List Flt) (w : World) (hk : Keys w) (hc : RdC w cv cs) (hf : RdF w fv fs) (hns : n.size ≤ 1048576) (hcl : cs.length ≤ 1048576) (hfl : fs.length ≤ 1048576) :
    Calls Tryd.prog 48 #[cfgV n cv fv d, .int .i64 1] w fun e w' => e = .returned (.bool (condB n cs fs d 1)) ∧ Ext w w' := by
  have HC := Lib.hid hc
  have HF := Lib.hid hf
  have HK := Lib.hid hk
  clear hc hf hk
  have E0 := (Ext.refl w).alloc (.cells #[.string n, cv, fv, .int .i64 d] 33)
  go_enter Tryd.func48, Tryd.ntmps48
  go_wp2_with fail
  refine (spec_cfName_any n _ hns).mono ?_
  rintro e w1 ⟨rfl, F1⟩
  go_wp2
  go_ret
  exact ⟨rfl, E0.trans F1⟩
theorem spec_vaHolds_2 (n : ByteArray) (cv fv : Value) (d : Int) (cs : List Cls) (fs : List Flt) (w : World) (hk : Keys w) (hc : RdC w cv cs) (hf : RdF w fv fs) (hns : n.size ≤ 1048576) (hcl : cs.length ≤ 1048576) (hfl : fs.length ≤ 1048576) :
    Calls Tryd.prog 48 #[cfgV n cv fv d, .int .i64 2] w fun e w' => e = .returned (.bool (condB n cs fs d 2)) ∧ Ext w w' := by
  have HC := Lib.hid hc
  have HF := Lib.hid hf
  have HK := Lib.hid hk
  clear hc hf hk
  have E0 := (Ext.refl w).alloc (.cells #[.string n, cv, fv, .int .i64 d] 33)
  go_enter Tryd.func48, Tryd.ntmps48
  go_wp2_with fail
  refine (spec_vaTree_any2 n _ fv d cs _ (HC.out.ext E0) hcl).mono ?_
  rintro e w1 ⟨rfl, F1⟩
  go_wp2
  go_ret
  exact ⟨rfl, E0.trans F1⟩
theorem spec_vaHolds_3 (n : ByteArray) (cv fv : Value) (d : Int) (cs : List Cls) (fs : List Flt) (w : World) (hk : Keys w) (hc : RdC w cv cs) (hf : RdF w fv fs) (hns : n.size ≤ 1048576) (hcl : cs.length ≤ 1048576) (hfl : fs.length ≤ 1048576) :
    Calls Tryd.prog 48 #[cfgV n cv fv d, .int .i64 3] w fun e w' => e = .returned (.bool (condB n cs fs d 3)) ∧ Ext w w' := by
  have HC := Lib.hid hc
  have HF := Lib.hid hf
  have HK := Lib.hid hk
  clear hc hf hk
  have E0 := (Ext.refl w).alloc (.cells #[.string n, cv, fv, .int .i64 d] 33)
  go_enter Tryd.func48, Tryd.ntmps48
  go_wp2_with fail
  refine (spec_vaTree_any3 n _ fv d cs _ (HC.out.ext E0) hcl).mono ?_
  rintro e w1 ⟨rfl, F1⟩
  go_wp2
  go_ret
  exact ⟨rfl, E0.trans F1⟩
theorem spec_vaHolds_4 (n : ByteArray) (cv fv : Value) (d : Int) (cs : List Cls) (fs : List Flt) (w : World) (hk : Keys w) (hc : RdC w cv cs) (hf : RdF w fv fs) (hns : n.size ≤ 1048576) (hcl : cs.length ≤ 1048576) (hfl : fs.length ≤ 1048576) :
    Calls Tryd.prog 48 #[cfgV n cv fv d, .int .i64 4] w fun e w' => e = .returned (.bool (condB n cs fs d 4)) ∧ Ext w w' := by
  have HC := Lib.hid hc
  have HF := Lib.hid hf
  have HK := Lib.hid hk
  clear hc hf hk
  have E0 := (Ext.refl w).alloc (.cells #[.string n, cv, fv, .int .i64 d] 33)
  go_enter Tryd.func48, Tryd.ntmps48
  go_wp2_with fail
  refine (spec_vaTree_any4 n _ fv d cs _ (HC.out.ext E0) hcl).mono ?_
  rintro e w1 ⟨rfl, F1⟩
  go_wp2
  go_ret
  exact ⟨rfl, E0.trans F1⟩
theorem spec_vaHolds_5 (n : ByteArray) (cv fv : Value) (d : Int) (cs : List Cls) (fs : List Flt) (w : World) (hk : Keys w) (hc : RdC w cv cs) (hf : RdF w fv fs) (hns : n.size ≤ 1048576) (hcl : cs.length ≤ 1048576) (hfl : fs.length ≤ 1048576) :
    Calls Tryd.prog 48 #[cfgV n cv fv d, .int .i64 5] w fun e w' => e = .returned (.bool (condB n cs fs d 5)) ∧ Ext w w' := by
  have HC := Lib.hid hc
  have HF := Lib.hid hf
  have HK := Lib.hid hk
  clear hc hf hk
  have E0 := (Ext.refl w).alloc (.cells #[.string n, cv, fv, .int .i64 d] 33)
  go_enter Tryd.func48, Tryd.ntmps48
  go_wp2_with fail
  refine (spec_vaClasses_any5 n _ fv d cs _ (HC.out.ext E0) hcl).mono ?_
  rintro e w1 ⟨rfl, F1⟩
  go_wp2
  go_ret
  exact ⟨rfl, E0.trans F1⟩
theorem spec_vaHolds_6 (n : ByteArray) (cv fv : Value) (d : Int) (cs : List Cls) (fs : List Flt) (w : World) (hk : Keys w) (hc : RdC w cv cs) (hf : RdF w fv fs) (hns : n.size ≤ 1048576) (hcl : cs.length ≤ 1048576) (hfl : fs.length ≤ 1048576) :
    Calls Tryd.prog 48 #[cfgV n cv fv d, .int .i64 6] w fun e w' => e = .returned (.bool (condB n cs fs d 6)) ∧ Ext w w' := by
  have HC := Lib.hid hc
  have HF := Lib.hid hf
  have HK := Lib.hid hk
  clear hc hf hk
  have E0 := (Ext.refl w).alloc (.cells #[.string n, cv, fv, .int .i64 d] 33)
  have HD := Lib.hid (show condB n cs fs d 6 = (cntB cs && noN (overP cs) cs.length) from rfl)
  go_enter Tryd.func48, Tryd.ntmps48
  go_wp2_with fail
  refine (spec_vaRates_any n _ fv d cs _ (HC.out.ext E0) hcl).mono ?_
  rintro e w1 ⟨rfl, F1⟩
  have E1 := E0.trans F1
  cases hr : cntB cs
  · have HV := Lib.hid (show condB n cs fs d 6 = false by rw [HD.out, hr]; rfl)
    go_wp2
    go_ret
    exact ⟨by rw [HV.out]; rfl, E1⟩
  · have HV := Lib.hid (show condB n cs fs d 6 = ((((pick (overP cs) cs.length).length : Nat) : Int) == 0) by rw [HD.out, hr, pick_len0]; rfl)
    have HRO := Lib.hid (cnt_ok hr)
    obtain ⟨q0, q1, q2, q3, _⟩ := (Box.new w n cv fv d 33).ext F1
    go_wp2_with fail
    clear q0 q1 q2 q3
    refine (spec_vaOver_any n _ fv d cs _ (HC.out.ext E1) hcl HRO.out).mono ?_
    rintro e w2 ⟨u2, rfl, O2, F2⟩
    obtain ⟨A2, k2, rfl, _, _⟩ := Own.rd O2 icell_len
    clear O2
    go_wp2
    go_ret
    exact ⟨by rw [HV.out]; rfl, E1.trans F2⟩
theorem spec_vaHolds_7 (n : ByteArray) (cv fv : Value) (d : Int) (cs : List Cls) (fs : List Flt) (w : World) (hk : Keys w) (hc : RdC w cv cs) (hf : RdF w fv fs) (hns : n.size ≤ 1048576) (hcl : cs.length ≤ 1048576) (hfl : fs.length ≤ 1048576) :
    Calls Tryd.prog 48 #[cfgV n cv fv d, .int .i64 7] w fun e w' => e = .returned (.bool (condB n cs fs d 7)) ∧ Ext w w' := by
  have HC := Lib.hid hc
  have HF := Lib.hid hf
  have HK := Lib.hid hk
  clear hc hf hk
  have E0 := (Ext.refl w).alloc (.cells #[.string n, cv, fv, .int .i64 d] 33)
  go_enter Tryd.func48, Tryd.ntmps48
  go_wp2_with fail
  refine (spec_vaClasses_any7 n _ fv d cs _ (HC.out.ext E0) hcl).mono ?_
  rintro e w1 ⟨rfl, F1⟩
  go_wp2
  go_ret
  exact ⟨rfl, E0.trans F1⟩
theorem spec_vaHolds_8 (n : ByteArray) (cv fv : Value) (d : Int) (cs : List Cls) (fs : List Flt) (w : World) (hk : Keys w) (hc : RdC w cv cs) (hf : RdF w fv fs) (hns : n.size ≤ 1048576) (hcl : cs.length ≤ 1048576) (hfl : fs.length ≤ 1048576) :
    Calls Tryd.prog 48 #[cfgV n cv fv d, .int .i64 8] w fun e w' => e = .returned (.bool (condB n cs fs d 8)) ∧ Ext w w' := by
  have HC := Lib.hid hc
  have HF := Lib.hid hf
  have HK := Lib.hid hk
  clear hc hf hk
  have E0 := (Ext.refl w).alloc (.cells #[.string n, cv, fv, .int .i64 d] 33)
  go_enter Tryd.func48, Tryd.ntmps48
  go_wp2_with fail
  refine (spec_vaClasses_any8 n _ fv d cs _ (HC.out.ext E0) hcl).mono ?_
  rintro e w1 ⟨rfl, F1⟩
  go_wp2
  go_ret
  exact ⟨rfl, E0.trans F1⟩
theorem spec_vaHolds_9 (n : ByteArray) (cv fv : Value) (d : Int) (cs : List Cls) (fs : List Flt) (w : World) (hk : Keys w) (hc : RdC w cv cs) (hf : RdF w fv fs) (hns : n.size ≤ 1048576) (hcl : cs.length ≤ 1048576) (hfl : fs.length ≤ 1048576) :
    Calls Tryd.prog 48 #[cfgV n cv fv d, .int .i64 9] w fun e w' => e = .returned (.bool (condB n cs fs d 9)) ∧ Ext w w' := by
  have HC := Lib.hid hc
  have HF := Lib.hid hf
  have HK := Lib.hid hk
  clear hc hf hk
  have E0 := (Ext.refl w).alloc (.cells #[.string n, cv, fv, .int .i64 d] 33)
  go_enter Tryd.func48, Tryd.ntmps48
  go_wp2_with fail
  refine (spec_cfFilters_any n _ _ d cs fs _ (HC.out.ext E0) (HF.out.ext E0) hcl hfl).mono ?_
  rintro e w1 ⟨rfl, F1⟩
  go_wp2
  go_ret
  exact ⟨rfl, E0.trans F1⟩
theorem spec_vaHolds_10 (n : ByteArray) (cv fv : Value) (d : Int) (cs : List Cls) (fs : List Flt) (w : World) (hk : Keys w) (hc : RdC w cv cs) (hf : RdF w fv fs) (hns : n.size ≤ 1048576) (hcl : cs.length ≤ 1048576) (hfl : fs.length ≤ 1048576) :
    Calls Tryd.prog 48 #[cfgV n cv fv d, .int .i64 10] w fun e w' => e = .returned (.bool (condB n cs fs d 10)) ∧ Ext w w' := by
  have HC := Lib.hid hc
  have HF := Lib.hid hf
  have HK := Lib.hid hk
  clear hc hf hk
  have E0 := (Ext.refl w).alloc (.cells #[.string n, cv, fv, .int .i64 d] 33)
  by_cases hd : d = 0
  · subst hd
    have HV := Lib.hid (show condB n cs fs 0 10 = true by simp [condB, dflB])
    go_enter Tryd.func48, Tryd.ntmps48
    go_wp2
    go_ret
    exact ⟨by rw [HV.out]; rfl, E0⟩
  · have HV := Lib.hid (show condB n cs fs d 10 = leafIdB cs d by simp [condB, dflB, hd])
    have hd' : (d == 0) = false := by simp [hd]
    go_enter Tryd.func48, Tryd.ntmps48
    go_wp2_with fail
    refine (spec_cfTarget_any n _ fv d d cs _ (HC.out.ext E0) hcl).mono ?_
    rintro e w1 ⟨rfl, F1⟩
    go_wp2
    go_ret
    exact ⟨by rw [HV.out]; rfl, E0.trans F1⟩
theorem spec_vaHolds_any (n : ByteArray) (cv fv : Value) (d : Int) (k : Nat) (cs : List Cls) (fs : List Flt) (w : World) (hk : Keys w) (hc : RdC w cv cs) (hf : RdF w fv fs) (hk0 : 0 < k) (hk1 : k ≤ 10) (hns : n.size ≤ 1048576) (hcl : cs.length ≤ 1048576) (hfl : fs.length ≤ 1048576) :
    Calls Tryd.prog 48 #[cfgV n cv fv d, .int .i64 (k : Int)] w fun e w' => e = .returned (.bool (condB n cs fs d k)) ∧ Ext w w' := by
  match k, hk0, hk1 with
  | 1, _, _ => exact spec_vaHolds_1 n cv fv d cs fs w hk hc hf hns hcl hfl
  | 2, _, _ => exact spec_vaHolds_2 n cv fv d cs fs w hk hc hf hns hcl hfl
  | 3, _, _ => exact spec_vaHolds_3 n cv fv d cs fs w hk hc hf hns hcl hfl
  | 4, _, _ => exact spec_vaHolds_4 n cv fv d cs fs w hk hc hf hns hcl hfl
  | 5, _, _ => exact spec_vaHolds_5 n cv fv d cs fs w hk hc hf hns hcl hfl
  | 6, _, _ => exact spec_vaHolds_6 n cv fv d cs fs w hk hc hf hns hcl hfl
  | 7, _, _ => exact spec_vaHolds_7 n cv fv d cs fs w hk hc hf hns hcl hfl
  | 8, _, _ => exact spec_vaHolds_8 n cv fv d cs fs w hk hc hf hns hcl hfl
  | 9, _, _ => exact spec_vaHolds_9 n cv fv d cs fs w hk hc hf hns hcl hfl
  | 10, _, _ => exact spec_vaHolds_10 n cv fv d cs fs w hk hc hf hns hcl hfl
  | k + 11, _, h => exact absurd h (by omega)
end Go.Proofs.YtjjflfoecdnegaaDoor
