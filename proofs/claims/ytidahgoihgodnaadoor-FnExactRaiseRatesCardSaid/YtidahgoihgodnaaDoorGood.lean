/- Whether a configuration is valid: contracts of the reference. Printed by wip/tools/gen_good.py. -/
import Derived.Test.YtidahgoihgodnaaDoorHold
namespace Go.Proofs.YtidahgoihgodnaaDoor
open Go.RowKit
set_option maxRecDepth 20000
set_option maxHeartbeats 1000000
set_option linter.unusedSimpArgs false
set_option linter.unusedVariables false

theorem spec_cfClass_any (x : Cls) (w : World) :
    Calls Tryd.prog 79 #[clsV x] w fun e w' => e = .returned (.bool (clsB x)) ∧ Ext w w' := by
  go_enter Tryd.func79, Tryd.ntmps79
  go_wp2_with (go_at_call 50; refine (spec_l1In_any _ _ _ _ ).mono ?_; rintro e w' ⟨rfl, rfl⟩)
  all_goals (go_ret; refine ⟨?_, (Ext.refl _).alloc _⟩; first | (simp [clsB, *]; done) | (simp_all [clsB]; done))
theorem spec_cfFilter_any (x : Flt) (w : World) :
    Calls Tryd.prog 81 #[fltW x] w fun e w' => e = .returned (.bool (filB1 x)) ∧ Ext w w' := by
  go_enter Tryd.func81, Tryd.ntmps81
  go_wp2_with (go_at_call 50; refine (spec_l1In_any _ _ _ _ ).mono ?_; rintro e w' ⟨rfl, rfl⟩)
  all_goals (go_ret; refine ⟨?_, (Ext.refl _).alloc _⟩; first | (simp [filB1, fltB, *]; done) | (have hv : I64 x.value := i64_in (a := 0) (b := 65535) (by assumption) (by unfold I64; omega) (by unfold I64; omega); have hh := and_self_iff x.value x.mask hv; simp [filB1, fltB, *]))
theorem spec_cfUp_any (n : ByteArray) (cv fv : Value) (d : Int) (i : Nat) (cs : List Cls) (w : World) (hc : RdC w cv cs) (hi : i < cs.length) (hcl : cs.length ≤ 1048576) :
    Calls Tryd.prog 80 #[cfgV n cv fv d, .int .i64 (i : Int)] w fun e w' => ∃ u, e = .returned u ∧ OwnI w' w.heap.size 3 u (wayL (upF cs) i (upN (upF cs) i)) ∧ Ext w w' := by
  have HC := Lib.hid hc
  obtain ⟨CA, cc, rfl, hcc, hrc⟩ := hc
  have HR := Lib.hid hrc
  clear hrc
  have HST := Lib.hid (show OwnI (w.alloc (.cells #[.string n, .slice CA cs.length cc, fv, .int .i64 d] 30)) (w.heap.size + 1) 3 (.slice none 0 0) [] from World.ownsRow_nil _ _ _ _)
  obtain ⟨hu9, hu0, hup, hue⟩ := upN_spec (upF cs) i
  have HUP := Lib.hid hup
  have HUE := Lib.hid hue
  clear hup hue
  go_enter Tryd.func80, Tryd.ntmps80
  go_wp2
  go_loopw [1, 5] (fun t s wr => ∃ m : Nat, m ≤ upN (upF cs) i ∧ t = .int .i64 (itU (upF cs) i m) ∧ Hid (OwnI wr (w.heap.size + 1) 3 s (wayL (upF cs) i m)) ∧ Ext (w.alloc (.cells #[.string n, .slice CA cs.length cc, fv, .int .i64 d] 30)) wr) (fun _ s _ => 10 - lenV s)
  case atStart => exact ⟨0, Nat.zero_le _, rfl, HST.out, Ext.refl _⟩
  case round =>
    obtain ⟨m, hm, rfl, hq, hx⟩ := hrel
    have hxw := Ext.trans ((Ext.refl w).alloc (.cells #[.string n, .slice CA cs.length cc, fv, .int .i64 d] 30)) hx
    obtain ⟨A1, k1, hs, _, _⟩ := Own.rd hq.out icell_len
    rw [wayL_len] at hs
    subst hs
    by_cases hlt : m < upN (upF cs) i
    · obtain ⟨u, hu⟩ := Int.eq_ofNat_of_zero_le (HUP.out m hlt)
      have hul : u < cs.length := by have := itU_bd (upF_bd cs) hi m; omega
      have HU := Lib.hid hu
      rw [hu]
      clear hu
      have hm8 : (m : Int) ≤ 8 := by omega
      obtain ⟨b, o, hCA, hb, hcell⟩ := HR.out u cs[u] (List.getElem?_eq_getElem hul)
      have HPA := Lib.hid (parAt_is cs u hul)
      generalize cs[u] = x at hcell HPA
      subst hCA
      have HCE := Lib.hid (hcell 1 _ rfl)
      clear hcell
      go_wp2_with (at_builtin; refine app_intB (by simp) hq.out (by rw [wayL_len]; omega) hx rfl rfl rfl rfl ?_; intro v2 w2 hown2 D2; have HO2 := Lib.hid hown2; clear hown2; obtain ⟨q0, q1, q2, q3, q4⟩ := (Box.new w n (.slice (some ⟨b, o, none⟩) cs.length cc) fv d 30).ext D2; have c1 : w2.cell? ⟨b, o + u * 8 + 1, none⟩ = some (.int .i64 x.parent) := (Ext.cell (Ext.trans ((Ext.refl w).alloc _) D2) hb).trans HCE.out; have z0 : b < w2.heap.size := Ext.lts (Ext.trans ((Ext.refl w).alloc _) D2) _ hb)
      (go_wp2_with fail; refine wp_region_ext (by kernel_rfl) (by kernel_rfl) ?_; (repeat (first | go_big_quiet_step ((first | (go_at_call 22; exact calls_later (spec_cfFind_any _ _ _ _ _ _ _ (HC.out.ext ((Ext.trans ((Ext.refl w).alloc _) D2).trans (Later.ext _))) (by omega))))) | quiet_step ((first | (go_at_call 22; exact calls_later (spec_cfFind_any _ _ _ _ _ _ _ (HC.out.ext ((Ext.trans ((Ext.refl w).alloc _) D2).trans (Later.ext _))) (by omega))))))); refine wpQuiet_nil ?_; intro wq hbq; have hcq := Ext.cells hbq; have hzq := Ext.frozens hbq; have hsq := Ext.lts hbq)
      clear q0 q1 q2 q3 q4 c1
      have HL2 := Lib.hid (own_lenV HO2.out icell_len)
      go_wp2
      go_roundw
      case rel => exact ⟨m + 1, hlt, by rw [itU_up HU.out, HPA.out], by rw [wayL_succ, HU.out]; exact Own.ext HO2.out hbq, D2.trans hbq⟩
      case measure =>
        have h1 := HL2.out
        rw [List.length_append, wayL_len, List.length_singleton] at h1
        rw [h1]
        simp [lenV]
        omega
    · obtain rfl : m = upN (upF cs) i := by omega
      generalize hwn : upN (upF cs) i = wn at *
      have HWN := Lib.hid hwn
      by_cases h9 : wn < 9
      · have hn := HUE.out h9
        obtain ⟨z, hz⟩ : ∃ z, itU (upF cs) i wn = z := ⟨_, rfl⟩
        rw [hz] at hn ⊢
        go_wp2
        go_ret
        exact ⟨_, rfl, (by first | exact Own.mono (base := w.heap.size + 1) hq.out (by omega) | (rw [HWN.out]; exact Own.mono (base := w.heap.size + 1) hq.out (by omega))), hxw⟩
      · obtain rfl : wn = 9 := by omega
        generalize itU (upF cs) i 9 = z at *
        by_cases hz : 0 ≤ z
        all_goals
          go_wp2
          go_ret
          exact ⟨_, rfl, (by first | exact Own.mono (base := w.heap.size + 1) hq.out (by omega) | (rw [HWN.out]; exact Own.mono (base := w.heap.size + 1) hq.out (by omega))), hxw⟩
theorem one_rates {cs : List Cls} (h : ∀ k, k < cs.length → oneBad cs k = false) : RatesOk cs := cnt_ok (rates_cnt fun k hk => by
  have := h k hk
  rw [one_is hk] at this
  simp only [Bool.or_eq_false_iff] at this
  exact this.1.2)
theorem spec_cfTree_any (n : ByteArray) (cv fv : Value) (d : Int) (cs : List Cls) (w : World) (hc : RdC w cv cs) (hcl : cs.length ≤ 1048576) :
    Calls Tryd.prog 51 #[cfgV n cv fv d] w fun e w' => e = .returned (.bool (treeB cs)) ∧ Ext w w' := by
  have HC := Lib.hid hc
  obtain ⟨CA, cc, rfl, hcc, hrc⟩ := hc
  have HR := Lib.hid hrc
  clear hrc
  have E0 := (Ext.refl w).alloc (.cells #[.string n, .slice CA cs.length cc, fv, .int .i64 d] 30)
  go_enter Tryd.func51, Tryd.ntmps51
  go_wp2
  go_loopw [12, 3] (fun t s wr => ∃ k : Nat, k ≤ cs.length ∧ t = .int .i64 (k : Int) ∧ s = .int .i64 (topsN cs k) ∧ Hid (∀ j, j < k → oneBad cs j = false) ∧ Ext (w.alloc (.cells #[.string n, .slice CA cs.length cc, fv, .int .i64 d] 30)) wr) (fun t _ _ => cs.length - (intOf t).toNat)
  case atStart => exact ⟨0, Nat.zero_le _, rfl, rfl, fun j hj => absurd hj (Nat.not_lt_zero _), Ext.refl _⟩
  case round =>
    obtain ⟨k, hk, rfl, rfl, hq, hx⟩ := hrel
    have hxw := Ext.trans ((Ext.refl w).alloc (.cells #[.string n, .slice CA cs.length cc, fv, .int .i64 d] 30)) hx
    have BX := Lib.hid ((Box.new w n (.slice CA cs.length cc) fv d 30).ext hx)
    obtain ⟨q0, q1, q2, q3, q4⟩ := BX.out
    by_cases hlt : k < cs.length
    · have HEQ := Lib.hid (List.getElem?_eq_getElem hlt)
      obtain ⟨b, o, hCA, hb, hcell⟩ := HR.out k cs[k] (List.getElem?_eq_getElem hlt)
      obtain ⟨x, hxe⟩ : ∃ x, x = cs[k] := ⟨_, rfl⟩
      rw [← hxe] at hcell
      have HX := Lib.hid hxe
      clear hxe
      subst hCA
      have c0 : wr.cell? ⟨b, o + k * 8, none⟩ = some (.int .i64 x.id) := by rw [Ext.cell hxw hb]; exact hcell 0 _ rfl
      have c1 : wr.cell? ⟨b, o + k * 8 + 1, none⟩ = some (.int .i64 x.parent) := by rw [Ext.cell hxw hb]; exact hcell 1 _ rfl
      have c2 : wr.cell? ⟨b, o + k * 8 + 2, none⟩ = some (.int .i64 x.rate) := by rw [Ext.cell hxw hb]; exact hcell 2 _ rfl
      have c3 : wr.cell? ⟨b, o + k * 8 + 3, none⟩ = some (.int .i64 x.ceil) := by rw [Ext.cell hxw hb]; exact hcell 3 _ rfl
      have c4 : wr.cell? ⟨b, o + k * 8 + 4, none⟩ = some (.int .i64 x.burst) := by rw [Ext.cell hxw hb]; exact hcell 4 _ rfl
      have c5 : wr.cell? ⟨b, o + k * 8 + 5, none⟩ = some (.int .i64 x.cburst) := by rw [Ext.cell hxw hb]; exact hcell 5 _ rfl
      have c6 : wr.cell? ⟨b, o + k * 8 + 6, none⟩ = some (.int .i64 x.prio) := by rw [Ext.cell hxw hb]; exact hcell 6 _ rfl
      have c7 : wr.cell? ⟨b, o + k * 8 + 7, none⟩ = some (.int .i64 x.limit) := by rw [Ext.cell hxw hb]; exact hcell 7 _ rfl
      have z0 : b < wr.heap.size := Ext.lts hxw _ hb
      have z1 : b < wr.heap.size + 1 := by omega
      have q5 : w.heap.size < wr.heap.size + 1 := by omega
      have HTS := Lib.hid (topsN_succ cs k)
      have HTP := Lib.hid (show topP cs k = (x.parent == 0) by rw [topP, parAt_of hlt HX.out])
      have hb0 := (topsN_bd cs k).1
      have hb1 : topsN cs k ≤ 1048576 := by have := (topsN_bd cs k).2; omega
      generalize topsN cs k = S at *
      have HI := Lib.hid (idAt_of hlt HX.out)
      have HCB := Lib.hid (clsAt_of hlt HX.out fun x => !clsB x)
      go_wp2_with fail
      clear c0 c1 c2 c3 c4 c5 c6 c7
      cases hi : clsB x
      · have HE := Lib.hid (show oneBad cs k = true by simp only [oneBad, HCB.out, hi]; rfl)
        clear hcell
        (go_wp2_with fail; refine wp_region_ext (by kernel_rfl) (by kernel_rfl) ?_; (repeat (first | go_big_quiet_step ((first | (go_at_call 79; exact calls_later (spec_cfClass_any _ _ )))) | quiet_step ((first | (go_at_call 79; exact calls_later (spec_cfClass_any _ _ )))))); refine wpQuiet_nil ?_; intro wq hbq; have hcq := Ext.cells hbq; have hzq := Ext.frozens hbq; have hsq := Ext.lts hbq)
        have HV := Lib.hid (show treeB cs = false by rw [treeB, noN_found hlt HE.out]; rfl)
        go_wp2
        go_ret
        exact ⟨by rw [HV.out]; rfl, (hxw.alloc _).trans hbq⟩
      · have HFO := Lib.hid hi
        by_cases hk0 : k = 0
        · have HE := Lib.hid (show oneBad cs k = false by simp only [oneBad, HCB.out, HFO.out]; simp [hk0])
          clear hcell
          (go_wp2_with fail; refine wp_region_ext (by kernel_rfl) (by kernel_rfl) ?_; (repeat (first | go_big_quiet_step ((first | (go_at_call 79; exact calls_later (spec_cfClass_any _ _ )))) | quiet_step ((first | (go_at_call 79; exact calls_later (spec_cfClass_any _ _ )))))); refine wpQuiet_nil ?_; intro wq hbq; have hcq := Ext.cells hbq; have hzq := Ext.frozens hbq; have hsq := Ext.lts hbq)
          by_cases hp : x.parent = 0
          · have HT := Lib.hid (show topP cs k = true by rw [HTP.out]; simp [hp])
            go_wp2
            go_roundw
            case rel => exact ⟨k + 1, by omega, by go_num, by rw [HTS.out, HT.out]; go_num, all_succ hq.out HE.out, (hx.alloc _).trans hbq⟩
            case measure => simp [intOf]; omega
          · have HT := Lib.hid (show topP cs k = false by rw [HTP.out]; simp [hp])
            have hp' : (x.parent == 0) = false := by simp [hp]
            go_wp2
            go_roundw
            case rel => exact ⟨k + 1, by omega, by go_num, by rw [HTS.out, HT.out]; simp, all_succ hq.out HE.out, (hx.alloc _).trans hbq⟩
            case measure => simp [intOf]; omega
        · have hk0' : 0 < k := by omega
          have hk1 : k - 1 < cs.length := by omega
          have hki : ((k : Int) - 1) = ((k - 1 : Nat) : Int) := by omega
          obtain ⟨b', o', hAA, hb', hcell'⟩ := HR.out (k - 1) cs[k - 1] (List.getElem?_eq_getElem hk1)
          simp only [Option.some.injEq, Addr.mk.injEq, and_true] at hAA
          obtain ⟨rfl, rfl⟩ := hAA
          obtain ⟨y, hye⟩ : ∃ y, y = cs[k - 1] := ⟨_, rfl⟩
          rw [← hye] at hcell'
          have HY := Lib.hid hye
          clear hye
          have d0 : wr.cell? ⟨b, o + (k - 1) * 8, none⟩ = some (.int .i64 y.id) := by rw [Ext.cell hxw hb]; exact hcell' 0 _ rfl
          clear hcell hcell' hb'
          have HIY := Lib.hid (idAt_of hk1 HY.out)
          by_cases hle : x.id ≤ y.id
          · have HE := Lib.hid (show oneBad cs k = true by simp only [oneBad, HCB.out, HI.out, HIY.out, HFO.out]; simp [hle]; omega)
            (go_wp2_with fail; refine wp_region_ext (by kernel_rfl) (by kernel_rfl) ?_; (repeat (first | go_big_quiet_step ((first | (go_at_call 79; exact calls_later (spec_cfClass_any _ _ )))) | quiet_step ((first | (go_at_call 79; exact calls_later (spec_cfClass_any _ _ )))))); refine wpQuiet_nil ?_; intro wq hbq; have hcq := Ext.cells hbq; have hzq := Ext.frozens hbq; have hsq := Ext.lts hbq)
            have HV := Lib.hid (show treeB cs = false by rw [treeB, noN_found hlt HE.out]; rfl)
            go_wp2
            go_ret
            exact ⟨by rw [HV.out]; rfl, (hxw.alloc _).trans hbq⟩
          · have HE := Lib.hid (show oneBad cs k = false by simp only [oneBad, HCB.out, HI.out, HIY.out, HFO.out]; simp [hle])
            (go_wp2_with fail; refine wp_region_ext (by kernel_rfl) (by kernel_rfl) ?_; (repeat (first | go_big_quiet_step ((first | (go_at_call 79; exact calls_later (spec_cfClass_any _ _ )))) | quiet_step ((first | (go_at_call 79; exact calls_later (spec_cfClass_any _ _ )))))); refine wpQuiet_nil ?_; intro wq hbq; have hcq := Ext.cells hbq; have hzq := Ext.frozens hbq; have hsq := Ext.lts hbq)
            by_cases hp : x.parent = 0
            · have HT := Lib.hid (show topP cs k = true by rw [HTP.out]; simp [hp])
              go_wp2
              go_roundw
              case rel => exact ⟨k + 1, by omega, by go_num, by rw [HTS.out, HT.out]; go_num, all_succ hq.out HE.out, (hx.alloc _).trans hbq⟩
              case measure => simp [intOf]; omega
            · have HT := Lib.hid (show topP cs k = false by rw [HTP.out]; simp [hp])
              have hp' : (x.parent == 0) = false := by simp [hp]
              go_wp2
              go_roundw
              case rel => exact ⟨k + 1, by omega, by go_num, by rw [HTS.out, HT.out]; simp, all_succ hq.out HE.out, (hx.alloc _).trans hbq⟩
              case measure => simp [intOf]; omega
    · obtain rfl : k = cs.length := by omega
      have HALL := Lib.hid ((noN_iff (oneBad cs) _).2 hq.out)
      have HRO := Lib.hid (one_rates ((noN_iff _ _).1 HALL.out))
      by_cases ht : topsN cs cs.length = 1
      · have HTT := Lib.hid ht
        rw [ht]
        clear ht
        go_wp2
        clear q0 q1 q2 q3 q4
        go_loopw [47] (fun t wr => ∃ k : Nat, k ≤ cs.length ∧ t = .int .i64 (k : Int) ∧ Hid (∀ j, j < k → twoBad cs j = false) ∧ Ext (w.alloc (.cells #[.string n, .slice CA cs.length cc, fv, .int .i64 d] 30)) wr) (fun t _ => cs.length - (intOf t).toNat)
        case atStart => exact ⟨0, Nat.zero_le _, rfl, fun j hj => absurd hj (Nat.not_lt_zero _), hx⟩
        clear hx hxw BX hq
        case round =>
          obtain ⟨k, hk, rfl, hq, hx⟩ := hrel
          have hxw := Ext.trans ((Ext.refl w).alloc (.cells #[.string n, .slice CA cs.length cc, fv, .int .i64 d] 30)) hx
          have BX := Lib.hid ((Box.new w n (.slice CA cs.length cc) fv d 30).ext hx)
          obtain ⟨q0, q1, q2, q3, q4⟩ := BX.out
          by_cases hlt : k < cs.length
          · obtain ⟨b, o, hCA, hb, hcell⟩ := HR.out k cs[k] (List.getElem?_eq_getElem hlt)
            obtain ⟨x, hxe⟩ : ∃ x, x = cs[k] := ⟨_, rfl⟩
            rw [← hxe] at hcell
            have HX := Lib.hid hxe
            clear hxe
            subst hCA
            have c0 : wr.cell? ⟨b, o + k * 8, none⟩ = some (.int .i64 x.id) := by rw [Ext.cell hxw hb]; exact hcell 0 _ rfl
            have c1 : wr.cell? ⟨b, o + k * 8 + 1, none⟩ = some (.int .i64 x.parent) := by rw [Ext.cell hxw hb]; exact hcell 1 _ rfl
            have c2 : wr.cell? ⟨b, o + k * 8 + 2, none⟩ = some (.int .i64 x.rate) := by rw [Ext.cell hxw hb]; exact hcell 2 _ rfl
            have c3 : wr.cell? ⟨b, o + k * 8 + 3, none⟩ = some (.int .i64 x.ceil) := by rw [Ext.cell hxw hb]; exact hcell 3 _ rfl
            have c4 : wr.cell? ⟨b, o + k * 8 + 4, none⟩ = some (.int .i64 x.burst) := by rw [Ext.cell hxw hb]; exact hcell 4 _ rfl
            have c5 : wr.cell? ⟨b, o + k * 8 + 5, none⟩ = some (.int .i64 x.cburst) := by rw [Ext.cell hxw hb]; exact hcell 5 _ rfl
            have c6 : wr.cell? ⟨b, o + k * 8 + 6, none⟩ = some (.int .i64 x.prio) := by rw [Ext.cell hxw hb]; exact hcell 6 _ rfl
            have c7 : wr.cell? ⟨b, o + k * 8 + 7, none⟩ = some (.int .i64 x.limit) := by rw [Ext.cell hxw hb]; exact hcell 7 _ rfl
            have HLA := Lib.hid (show limAt cs k = x.limit by rw [limAt_is cs k hlt, HX.out])
            have HLB := Lib.hid (show limBad cs k = if leafB cs k then !inR (limAt cs k) 1 60 else limAt cs k != 0 from rfl)
            have HTB := Lib.hid (show twoBad cs k = (upBad cs k || overP cs k || limBad cs k) from rfl)
            have HOV := Lib.hid (show overP cs k = decide (rateAt cs k < kidR cs k) from rfl)
            clear hcell
            go_wp2_with fail
            refine (spec_cfUp_any n _ fv d k cs _ (HC.out.ext (hxw.alloc _)) hlt (by omega)).mono ?_
            rintro e w1 ⟨u1, rfl, O1, F1⟩
            obtain ⟨ha, hb0, hps, _⟩ := upN_spec (upF cs) k
            obtain ⟨u, hu⟩ := Int.eq_ofNat_of_zero_le (hps (upN (upF cs) k - 1) (by omega))
            have hul : u < cs.length := by have := itU_bd (upF_bd cs) hlt (upN (upF cs) k - 1); omega
            have HUB := Lib.hid (show upBad cs k = (decide (8 < upN (upF cs) k) || (parAt cs u != 0)) by simp only [upBad, hu, Int.toNat_natCast])
            obtain ⟨A1, k1, hv1, _, hr1⟩ := Own.rd O1 icell_len
            obtain ⟨b1, o1, rfl, hb1, hcw⟩ := hr1 (upN (upF cs) k - 1) u (by rw [wayL_get _ _ _ _ (by omega), hu])
            rw [wayL_len] at hv1
            subst hv1
            clear O1 q0 q1 q2 q3 q4 hr1 hu hps c0 c1 c2 c3 c4 c5 c6 c7
            generalize hwn : upN (upF cs) k = wn at ha hb0 hcw HUB ⊢
            have hwc : w1.cell? ⟨b1, o1 + (wn - 1), none⟩ = some (.int .i64 (u : Int)) := by simpa using hcw 0 _ rfl
            have hwi : ((wn : Int) - 1) = ((wn - 1 : Nat) : Int) := by omega
            have hww : IntKind.i64.wrap ((wn - 1 : Nat) : Int) = ((wn - 1 : Nat) : Int) := by rw [IntKind.wrap_i64]; omega
            have hwl : wn - 1 < wn := by omega
            have z2 : b1 < w1.heap.size := hb1
            clear hcw
            obtain ⟨b', o', hAA, hb', hcell⟩ := HR.out u cs[u] (List.getElem?_eq_getElem hul)
            simp only [Option.some.injEq, Addr.mk.injEq, and_true] at hAA
            obtain ⟨rfl, rfl⟩ := hAA
            have HPA := Lib.hid (parAt_is cs u hul)
            generalize cs[u] = y at hcell HPA
            have d1 : w1.cell? ⟨b, o + u * 8 + 1, none⟩ = some (.int .i64 y.parent) := by rw [Ext.cell ((hxw.alloc _).trans F1) hb]; exact hcell 1 _ rfl
            clear hcell
            have BX1 := Lib.hid (BX.out.ext (((Ext.refl wr).alloc _).trans F1))
            obtain ⟨q0, q1, q2, q3, q4⟩ := BX1.out
            have z0 : b < w1.heap.size := Ext.lts ((hxw.alloc _).trans F1) _ hb
            have z3 : wr.heap.size < w1.heap.size := Ext.lts F1 _ (by simp)
            have l7 : w1.cell? ⟨wr.heap.size, 7, none⟩ = some (.int .i64 x.limit) := (Ext.cell F1 (by simp)).trans (by simp)
            by_cases h8 : 8 < wn
            · have h8' : (8 : Int) < wn := by omega
              have HE := Lib.hid (show twoBad cs k = true by rw [HTB.out, HUB.out, decide_eq_true h8]; rfl)
              go_wp2_with fail
              (go_wp2_with fail; refine wp_region_ext (by kernel_rfl) (by kernel_rfl) ?_; (repeat (first | go_big_quiet_step ((first | (go_at_call 42; exact calls_later (spec_cfSpare_any _ _ _ _ _ _ _ (HC.out.ext (((hxw.alloc _).trans F1).trans (Later.ext _))) hlt (by omega) HRO.out)))) | quiet_step ((first | (go_at_call 42; exact calls_later (spec_cfSpare_any _ _ _ _ _ _ _ (HC.out.ext (((hxw.alloc _).trans F1).trans (Later.ext _))) hlt (by omega) HRO.out)))))); refine wpQuiet_nil ?_; intro wq hbq; have hcq := Ext.cells hbq; have hzq := Ext.frozens hbq; have hsq := Ext.lts hbq)
              have HV := Lib.hid (show treeB cs = false by rw [treeB, noN_found hlt HE.out]; exact Bool.and_false _)
              go_wp2
              go_ret
              exact ⟨by rw [HV.out]; rfl, ((hxw.alloc _).trans F1).trans hbq⟩
            · have h8' : ¬ (8 : Int) < wn := by omega
              by_cases hp : y.parent = 0
              · have HU2 := Lib.hid (show upBad cs k = false by rw [HUB.out, decide_eq_false h8, HPA.out, hp]; rfl)
                have hp' : (y.parent != 0) = false := by simp [hp]
                by_cases hov : rateAt cs k - kidR cs k < 0
                · have HE := Lib.hid (show twoBad cs k = true by rw [HTB.out, HU2.out, HOV.out, decide_eq_true (by omega)]; rfl)
                  go_wp2_with fail
                  (go_wp2_with fail; refine wp_region_ext (by kernel_rfl) (by kernel_rfl) ?_; (repeat (first | go_big_quiet_step ((first | (go_at_call 42; exact calls_later (spec_cfSpare_any _ _ _ _ _ _ _ (HC.out.ext (((hxw.alloc _).trans F1).trans (Later.ext _))) hlt (by omega) HRO.out)))) | quiet_step ((first | (go_at_call 42; exact calls_later (spec_cfSpare_any _ _ _ _ _ _ _ (HC.out.ext (((hxw.alloc _).trans F1).trans (Later.ext _))) hlt (by omega) HRO.out)))))); refine wpQuiet_nil ?_; intro wq hbq; have hcq := Ext.cells hbq; have hzq := Ext.frozens hbq; have hsq := Ext.lts hbq)
                  have HV := Lib.hid (show treeB cs = false by rw [treeB, noN_found hlt HE.out]; exact Bool.and_false _)
                  go_wp2
                  go_ret
                  exact ⟨by rw [HV.out]; rfl, ((hxw.alloc _).trans F1).trans hbq⟩
                · have HTW := Lib.hid (show twoBad cs k = limBad cs k by rw [HTB.out, HU2.out, HOV.out, decide_eq_false (by omega)]; rfl)
                  go_wp2_with fail
                  (go_wp2_with fail; refine wp_region_ext (by kernel_rfl) (by kernel_rfl) ?_; (repeat (first | go_big_quiet_step ((first | (go_at_call 42; exact calls_later (spec_cfSpare_any _ _ _ _ _ _ _ (HC.out.ext (((hxw.alloc _).trans F1).trans (Later.ext _))) hlt (by omega) HRO.out)))) | quiet_step ((first | (go_at_call 42; exact calls_later (spec_cfSpare_any _ _ _ _ _ _ _ (HC.out.ext (((hxw.alloc _).trans F1).trans (Later.ext _))) hlt (by omega) HRO.out)))))); refine wpQuiet_nil ?_; intro wq hbq; have hcq := Ext.cells hbq; have hzq := Ext.frozens hbq; have hsq := Ext.lts hbq)
                  have E2 := ((hxw.alloc _).trans F1).trans hbq
                  have X2 := ((hx.alloc _).trans F1).trans hbq
                  have B2 := Lib.hid (BX1.out.ext hbq)
                  have l72 : wq.cell? ⟨wr.heap.size, 7, none⟩ = some (.int .i64 x.limit) := (Ext.cell hbq z3).trans l7
                  clear q0 q1 q2 q3 q4 d1 hwc l7 hcq hzq hsq
                  obtain ⟨q0, q1, q2, q3, q4⟩ := B2.out
                  go_wp2_with fail
                  refine (spec_cfLeaf_any n _ fv d k cs _ (HC.out.ext E2) hlt (by omega)).mono ?_
                  rintro e w3 ⟨rfl, F3⟩
                  have B3 := Lib.hid (B2.out.ext F3)
                  have l73 : w3.cell? ⟨wr.heap.size, 7, none⟩ = some (.int .i64 x.limit) := (Ext.cell F3 (Ext.lts hbq _ z3)).trans l72
                  clear q0 q1 q2 q3 q4 l72
                  obtain ⟨q0, q1, q2, q3, q4⟩ := B3.out
                  have z4 : wr.heap.size < w3.heap.size := Ext.lts F3 _ (Ext.lts hbq _ z3)
                  cases hl : leafB cs k
                  · have HLL := Lib.hid hl
                    go_wp2_with fail
                    refine (spec_cfLeaf_any n _ fv d k cs _ (HC.out.ext (E2.trans F3)) hlt (by omega)).mono ?_
                    rintro e w4 ⟨rfl, F4⟩
                    have l74 : w4.cell? ⟨wr.heap.size, 7, none⟩ = some (.int .i64 x.limit) := (Ext.cell F4 z4).trans l73
                    clear q0 q1 q2 q3 q4 l73
                    rw [hl]
                    by_cases hx0 : x.limit = 0
                    · have HE := Lib.hid (show twoBad cs k = false by rw [HTW.out, HLB.out, HLL.out, HLA.out, hx0]; rfl)
                      have hx0' : (x.limit != 0) = false := by simp [hx0]
                      go_wp2
                      go_roundw
                      case rel => exact ⟨k + 1, by omega, by go_num, all_succ hq.out HE.out, (X2.trans F3).trans F4⟩
                      case measure => simp [intOf]; omega
                    · have HE := Lib.hid (show twoBad cs k = true by rw [HTW.out, HLB.out, HLL.out, HLA.out]; simp [hx0])
                      have hx0' : (x.limit != 0) = true := by simp [hx0]
                      have HV := Lib.hid (show treeB cs = false by rw [treeB, noN_found hlt HE.out]; exact Bool.and_false _)
                      go_wp2
                      go_ret
                      exact ⟨by rw [HV.out]; rfl, (E2.trans F3).trans F4⟩
                  · have HLL := Lib.hid hl
                    go_wp2_with fail
                    refine (spec_l1In_any _ _ _ _).mono ?_
                    rintro e w4 ⟨rfl, rfl⟩
                    cases hi : inR x.limit 1 60
                    · have HE := Lib.hid (show twoBad cs k = true by rw [HTW.out, HLB.out, HLL.out, HLA.out, hi]; rfl)
                      have HV := Lib.hid (show treeB cs = false by rw [treeB, noN_found hlt HE.out]; exact Bool.and_false _)
                      go_wp2
                      go_ret
                      exact ⟨by rw [HV.out]; rfl, E2.trans F3⟩
                    · have HE := Lib.hid (show twoBad cs k = false by rw [HTW.out, HLB.out, HLL.out, HLA.out, hi]; rfl)
                      go_wp2_with fail
                      refine (spec_cfLeaf_any n _ fv d k cs _ (HC.out.ext (E2.trans F3)) hlt (by omega)).mono ?_
                      rintro e w4 ⟨rfl, F4⟩
                      clear q0 q1 q2 q3 q4 l73
                      rw [hl]
                      go_wp2
                      go_roundw
                      case rel => exact ⟨k + 1, by omega, by go_num, all_succ hq.out HE.out, (X2.trans F3).trans F4⟩
                      case measure => simp [intOf]; omega
              · have hp' : (y.parent != 0) = true := by simp [hp]
                have HE := Lib.hid (show twoBad cs k = true by rw [HTB.out, HUB.out, HPA.out, hp']; simp)
                go_wp2_with fail
                (go_wp2_with fail; refine wp_region_ext (by kernel_rfl) (by kernel_rfl) ?_; (repeat (first | go_big_quiet_step ((first | (go_at_call 42; exact calls_later (spec_cfSpare_any _ _ _ _ _ _ _ (HC.out.ext (((hxw.alloc _).trans F1).trans (Later.ext _))) hlt (by omega) HRO.out)))) | quiet_step ((first | (go_at_call 42; exact calls_later (spec_cfSpare_any _ _ _ _ _ _ _ (HC.out.ext (((hxw.alloc _).trans F1).trans (Later.ext _))) hlt (by omega) HRO.out)))))); refine wpQuiet_nil ?_; intro wq hbq; have hcq := Ext.cells hbq; have hzq := Ext.frozens hbq; have hsq := Ext.lts hbq)
                have HV := Lib.hid (show treeB cs = false by rw [treeB, noN_found hlt HE.out]; exact Bool.and_false _)
                go_wp2
                go_ret
                exact ⟨by rw [HV.out]; rfl, ((hxw.alloc _).trans F1).trans hbq⟩
          · obtain rfl : k = cs.length := by omega
            have HV := Lib.hid (show treeB cs = true by rw [treeB, HALL.out, HTT.out, (noN_iff _ _).2 hq.out]; rfl)
            go_wp2
            go_ret
            exact ⟨by rw [HV.out]; rfl, hxw⟩
      · have HV := Lib.hid (show treeB cs = false by rw [treeB, show (topsN cs cs.length == 1) = false by simp [ht], Bool.and_false]; rfl)
        have ht' : (topsN cs cs.length != 1) = true := by simp [ht]
        go_wp2
        go_ret
        exact ⟨by rw [HV.out]; rfl, hxw⟩
theorem spec_cfFilters_any (n : ByteArray) (cv fv : Value) (d : Int) (cs : List Cls) (fs : List Flt) (w : World) (hc : RdC w cv cs) (hf : RdF w fv fs) (hcl : cs.length ≤ 1048576) (hfl : fs.length ≤ 1048576) :
    Calls Tryd.prog 52 #[cfgV n cv fv d] w fun e w' => e = .returned (.bool (filB cs fs)) ∧ Ext w w' := by
  have HC := Lib.hid hc
  have HF := Lib.hid hf
  obtain ⟨FA, fc, rfl, hcc, hrc⟩ := hf
  have HR := Lib.hid hrc
  clear hrc hc
  have E0 := (Ext.refl w).alloc (.cells #[.string n, cv, .slice FA fs.length fc, .int .i64 d] 30)
  go_enter Tryd.func52, Tryd.ntmps52
  go_wp2
  go_loopw [8] (fun t wr => ∃ k : Nat, k ≤ fs.length ∧ t = .int .i64 (k : Int) ∧ Hid (∀ j, j < k → filBad cs fs j = false) ∧ Ext (w.alloc (.cells #[.string n, cv, .slice FA fs.length fc, .int .i64 d] 30)) wr) (fun t _ => fs.length - (intOf t).toNat)
  case atStart => exact ⟨0, Nat.zero_le _, rfl, fun j hj => absurd hj (Nat.not_lt_zero _), Ext.refl _⟩
  case round =>
    obtain ⟨k, hk, rfl, hq, hx⟩ := hrel
    have hxw := Ext.trans ((Ext.refl w).alloc (.cells #[.string n, cv, .slice FA fs.length fc, .int .i64 d] 30)) hx
    have BX := Lib.hid ((Box.new w n cv (.slice FA fs.length fc) d 30).ext hx)
    obtain ⟨q0, q1, q2, q3, q4⟩ := BX.out
    by_cases hlt : k < fs.length
    · have HEQ := Lib.hid (List.getElem?_eq_getElem hlt)
      obtain ⟨b, o, hCA, hb, hcell⟩ := HR.out k fs[k] (List.getElem?_eq_getElem hlt)
      obtain ⟨x, hxe⟩ : ∃ x, x = fs[k] := ⟨_, rfl⟩
      rw [← hxe] at hcell
      have HX := Lib.hid hxe
      clear hxe
      subst hCA
      have c0 : wr.cell? ⟨b, o + k * 5, none⟩ = some (.int .i64 x.prio) := by rw [Ext.cell hxw hb]; exact hcell 0 _ rfl
      have c1 : wr.cell? ⟨b, o + k * 5 + 1, none⟩ = some (.int .i64 x.field) := by rw [Ext.cell hxw hb]; exact hcell 1 _ rfl
      have c2 : wr.cell? ⟨b, o + k * 5 + 2, none⟩ = some (.int .i64 x.mask) := by rw [Ext.cell hxw hb]; exact hcell 2 _ rfl
      have c3 : wr.cell? ⟨b, o + k * 5 + 3, none⟩ = some (.int .i64 x.value) := by rw [Ext.cell hxw hb]; exact hcell 3 _ rfl
      have c4 : wr.cell? ⟨b, o + k * 5 + 4, none⟩ = some (.int .i64 x.target) := by rw [Ext.cell hxw hb]; exact hcell 4 _ rfl
      have z0 : b < wr.heap.size := Ext.lts hxw _ hb
      have z1 : b < wr.heap.size + 1 := by omega
      have q5 : w.heap.size < wr.heap.size + 1 := by omega
      have HPI := Lib.hid (prioAt_of hlt HX.out)
      have HFB := Lib.hid (fltAt_of hlt HX.out fun x => !filB1 x)
      have HBT := Lib.hid (show btP cs fs k = !leafIdB cs x.target from fltAt_of hlt HX.out _)
      have hxa := (hxw.alloc (.cells #[.int .i64 x.prio, .int .i64 x.field, .int .i64 x.mask, .int .i64 x.value, .int .i64 x.target] 66))
      go_wp2_with fail
      clear c0 c1 c2 c3 c4
      cases hi : filB1 x
      · have HE := Lib.hid (show filBad cs fs k = true by simp only [filBad, HFB.out, hi]; rfl)
        clear hcell
        (go_wp2_with fail; refine wp_region_ext (by kernel_rfl) (by kernel_rfl) ?_; (repeat (first | go_big_quiet_step ((first | (go_at_call 81; exact calls_later (spec_cfFilter_any _ _ )) | (go_at_call 20; exact calls_later (spec_cfTarget_any _ _ _ _ _ _ _ (HC.out.ext (hxa.trans (Later.ext _))) (by omega))))) | quiet_step ((first | (go_at_call 81; exact calls_later (spec_cfFilter_any _ _ )) | (go_at_call 20; exact calls_later (spec_cfTarget_any _ _ _ _ _ _ _ (HC.out.ext (hxa.trans (Later.ext _))) (by omega))))))); refine wpQuiet_nil ?_; intro wq hbq; have hcq := Ext.cells hbq; have hzq := Ext.frozens hbq; have hsq := Ext.lts hbq)
        have HV := Lib.hid (show filB cs fs = false by rw [filB, noN_found hlt HE.out]; rfl)
        go_wp2
        go_ret
        exact ⟨by rw [HV.out]; rfl, (hxw.alloc _).trans hbq⟩
      · have HFO := Lib.hid hi
        by_cases hk0 : k = 0
        · have hk0' : (k : Int) = 0 := by omega
          clear hcell
          cases ht : leafIdB cs x.target
          · have HE := Lib.hid (show filBad cs fs k = true by simp only [filBad, HFB.out, HFO.out, HBT.out, ht]; simp)
            (go_wp2_with fail; refine wp_region_ext (by kernel_rfl) (by kernel_rfl) ?_; (repeat (first | go_big_quiet_step ((first | (go_at_call 81; exact calls_later (spec_cfFilter_any _ _ )) | (go_at_call 20; exact calls_later (spec_cfTarget_any _ _ _ _ _ _ _ (HC.out.ext (hxa.trans (Later.ext _))) (by omega))))) | quiet_step ((first | (go_at_call 81; exact calls_later (spec_cfFilter_any _ _ )) | (go_at_call 20; exact calls_later (spec_cfTarget_any _ _ _ _ _ _ _ (HC.out.ext (hxa.trans (Later.ext _))) (by omega))))))); refine wpQuiet_nil ?_; intro wq hbq; have hcq := Ext.cells hbq; have hzq := Ext.frozens hbq; have hsq := Ext.lts hbq)
            have HV := Lib.hid (show filB cs fs = false by rw [filB, noN_found hlt HE.out]; rfl)
            go_wp2
            go_ret
            exact ⟨by rw [HV.out]; rfl, (hxw.alloc _).trans hbq⟩
          · have HE := Lib.hid (show filBad cs fs k = false by simp only [filBad, HFB.out, HFO.out, HBT.out, ht]; simp [hk0])
            (go_wp2_with fail; refine wp_region_ext (by kernel_rfl) (by kernel_rfl) ?_; (repeat (first | go_big_quiet_step ((first | (go_at_call 81; exact calls_later (spec_cfFilter_any _ _ )) | (go_at_call 20; exact calls_later (spec_cfTarget_any _ _ _ _ _ _ _ (HC.out.ext (hxa.trans (Later.ext _))) (by omega))))) | quiet_step ((first | (go_at_call 81; exact calls_later (spec_cfFilter_any _ _ )) | (go_at_call 20; exact calls_later (spec_cfTarget_any _ _ _ _ _ _ _ (HC.out.ext (hxa.trans (Later.ext _))) (by omega))))))); refine wpQuiet_nil ?_; intro wq hbq; have hcq := Ext.cells hbq; have hzq := Ext.frozens hbq; have hsq := Ext.lts hbq)
            go_wp2
            go_roundw
            case rel => exact ⟨k + 1, by omega, by go_num, all_succ hq.out HE.out, (hx.alloc _).trans hbq⟩
            case measure => simp [intOf]; omega
        · have hk0' : 0 < k := by omega
          have hk1 : k - 1 < fs.length := by omega
          have hki : ((k : Int) - 1) = ((k - 1 : Nat) : Int) := by omega
          obtain ⟨b', o', hAA, hb', hcell'⟩ := HR.out (k - 1) fs[k - 1] (List.getElem?_eq_getElem hk1)
          simp only [Option.some.injEq, Addr.mk.injEq, and_true] at hAA
          obtain ⟨rfl, rfl⟩ := hAA
          obtain ⟨y, hye⟩ : ∃ y, y = fs[k - 1] := ⟨_, rfl⟩
          rw [← hye] at hcell'
          have HY := Lib.hid hye
          clear hye
          have d0 : wr.cell? ⟨b, o + (k - 1) * 5, none⟩ = some (.int .i64 y.prio) := by rw [Ext.cell hxw hb]; exact hcell' 0 _ rfl
          clear hcell hcell' hb'
          have HPY := Lib.hid (prioAt_of hk1 HY.out)
          by_cases hle : x.prio ≤ y.prio
          · have HE := Lib.hid (show filBad cs fs k = true by simp only [filBad, HFB.out, HPI.out, HPY.out, HFO.out]; simp [hle]; omega)
            (go_wp2_with fail; refine wp_region_ext (by kernel_rfl) (by kernel_rfl) ?_; (repeat (first | go_big_quiet_step ((first | (go_at_call 81; exact calls_later (spec_cfFilter_any _ _ )) | (go_at_call 20; exact calls_later (spec_cfTarget_any _ _ _ _ _ _ _ (HC.out.ext (hxa.trans (Later.ext _))) (by omega))))) | quiet_step ((first | (go_at_call 81; exact calls_later (spec_cfFilter_any _ _ )) | (go_at_call 20; exact calls_later (spec_cfTarget_any _ _ _ _ _ _ _ (HC.out.ext (hxa.trans (Later.ext _))) (by omega))))))); refine wpQuiet_nil ?_; intro wq hbq; have hcq := Ext.cells hbq; have hzq := Ext.frozens hbq; have hsq := Ext.lts hbq)
            have HV := Lib.hid (show filB cs fs = false by rw [filB, noN_found hlt HE.out]; rfl)
            go_wp2
            go_ret
            exact ⟨by rw [HV.out]; rfl, (hxw.alloc _).trans hbq⟩
          · cases ht : leafIdB cs x.target
            · have HE := Lib.hid (show filBad cs fs k = true by simp only [filBad, HFB.out, HFO.out, HBT.out, ht]; simp)
              (go_wp2_with fail; refine wp_region_ext (by kernel_rfl) (by kernel_rfl) ?_; (repeat (first | go_big_quiet_step ((first | (go_at_call 81; exact calls_later (spec_cfFilter_any _ _ )) | (go_at_call 20; exact calls_later (spec_cfTarget_any _ _ _ _ _ _ _ (HC.out.ext (hxa.trans (Later.ext _))) (by omega))))) | quiet_step ((first | (go_at_call 81; exact calls_later (spec_cfFilter_any _ _ )) | (go_at_call 20; exact calls_later (spec_cfTarget_any _ _ _ _ _ _ _ (HC.out.ext (hxa.trans (Later.ext _))) (by omega))))))); refine wpQuiet_nil ?_; intro wq hbq; have hcq := Ext.cells hbq; have hzq := Ext.frozens hbq; have hsq := Ext.lts hbq)
              have HV := Lib.hid (show filB cs fs = false by rw [filB, noN_found hlt HE.out]; rfl)
              go_wp2
              go_ret
              exact ⟨by rw [HV.out]; rfl, (hxw.alloc _).trans hbq⟩
            · have HE := Lib.hid (show filBad cs fs k = false by simp only [filBad, HFB.out, HPI.out, HPY.out, HFO.out, HBT.out, ht]; simp [hle])
              (go_wp2_with fail; refine wp_region_ext (by kernel_rfl) (by kernel_rfl) ?_; (repeat (first | go_big_quiet_step ((first | (go_at_call 81; exact calls_later (spec_cfFilter_any _ _ )) | (go_at_call 20; exact calls_later (spec_cfTarget_any _ _ _ _ _ _ _ (HC.out.ext (hxa.trans (Later.ext _))) (by omega))))) | quiet_step ((first | (go_at_call 81; exact calls_later (spec_cfFilter_any _ _ )) | (go_at_call 20; exact calls_later (spec_cfTarget_any _ _ _ _ _ _ _ (HC.out.ext (hxa.trans (Later.ext _))) (by omega))))))); refine wpQuiet_nil ?_; intro wq hbq; have hcq := Ext.cells hbq; have hzq := Ext.frozens hbq; have hsq := Ext.lts hbq)
              go_wp2
              go_roundw
              case rel => exact ⟨k + 1, by omega, by go_num, all_succ hq.out HE.out, (hx.alloc _).trans hbq⟩
              case measure => simp [intOf]; omega
    · obtain rfl : k = fs.length := by omega
      have HALL := Lib.hid ((noN_iff (filBad cs fs) _).2 hq.out)
      have HV := Lib.hid (show filB cs fs = decide ((fs.length : Int) ≤ 16) by rw [filB, HALL.out]; rfl)
      go_wp2
      go_ret
      exact ⟨by rw [HV.out]; rfl, hxw⟩
theorem spec_cfGood_any (n : ByteArray) (cv fv : Value) (d : Int) (cs : List Cls) (fs : List Flt) (w : World) (hk : Keys w) (hc : RdC w cv cs) (hf : RdF w fv fs) (hz : n.size + cs.length + fs.length ≤ 1048576) :
    Calls Tryd.prog 19 #[cfgV n cv fv d] w fun e w' => e = .returned (.bool (goodB n cs fs d)) ∧ Ext w w' := by
  have HC := Lib.hid hc
  have HF := Lib.hid hf
  obtain ⟨CA, cc, rfl, hcc, _⟩ := hc
  obtain ⟨FA, fc, rfl, hfc, _⟩ := hf
  clear hk
  have HG := Lib.hid (good_eq n cs fs d)
  have HS := Lib.hid (show specB n cs fs d = (nameB n && inR cs.length 1 24 && treeB cs && filB cs fs && dflB cs d) from rfl)
  have E0 := (Ext.refl w).alloc (.cells #[.string n, .slice CA cs.length cc, .slice FA fs.length fc, .int .i64 d] 30)
  have B0 := Lib.hid (Box.new w n (.slice CA cs.length cc) (.slice FA fs.length fc) d 30)
  go_enter Tryd.func19, Tryd.ntmps19
  go_wp2_with fail
  refine (spec_cfName_any n _ (by omega)).mono ?_
  rintro e w1 ⟨rfl, F1⟩
  have E1 := E0.trans F1
  cases h1 : nameB n
  · have HV := Lib.hid (show goodB n cs fs d = false by rw [← HG.out, HS.out, h1]; rfl)
    go_wp2
    go_ret
    exact ⟨by rw [HV.out]; rfl, E1⟩
  obtain ⟨q0, q1, q2, q3, q4⟩ := B0.out.ext F1
  go_wp2_with fail
  refine (spec_l1In_any _ _ _ _).mono ?_
  rintro e w1' ⟨rfl, rfl⟩
  cases h2 : inR cs.length 1 24
  · have HV := Lib.hid (show goodB n cs fs d = false by rw [← HG.out, HS.out, h1, h2]; rfl)
    go_wp2
    go_ret
    exact ⟨by rw [HV.out]; rfl, E1⟩
  go_wp2_with fail
  clear q0 q1 q2 q3 q4
  refine (spec_cfTree_any n _ _ d cs _ (HC.out.ext E1) (by omega)).mono ?_
  rintro e w2 ⟨rfl, F2⟩
  have E2 := E1.trans F2
  cases h3 : treeB cs
  · have HV := Lib.hid (show goodB n cs fs d = false by rw [← HG.out, HS.out, h1, h2, h3]; rfl)
    go_wp2
    go_ret
    exact ⟨by rw [HV.out]; rfl, E2⟩
  obtain ⟨q0, q1, q2, q3, q4⟩ := B0.out.ext (F1.trans F2)
  go_wp2_with fail
  clear q0 q1 q2 q3 q4
  refine (spec_cfFilters_any n _ _ d cs fs _ (HC.out.ext E2) (HF.out.ext E2) (by omega) (by omega)).mono ?_
  rintro e w3 ⟨rfl, F3⟩
  have E3 := E2.trans F3
  cases h4 : filB cs fs
  · have HV := Lib.hid (show goodB n cs fs d = false by rw [← HG.out, HS.out, h1, h2, h3, h4]; rfl)
    go_wp2
    go_ret
    exact ⟨by rw [HV.out]; rfl, E3⟩
  obtain ⟨q0, q1, q2, q3, q4⟩ := B0.out.ext ((F1.trans F2).trans F3)
  have HV := Lib.hid (show goodB n cs fs d = dflB cs d by rw [← HG.out, HS.out, h1, h2, h3, h4]; rfl)
  cases hd : (d == 0)
  · have HW := Lib.hid (show dflB cs d = leafIdB cs d by simp only [dflB, hd]; rfl)
    go_wp2_with fail
    clear q0 q1 q2 q3 q4
    refine (spec_cfTarget_any n _ _ d d cs _ (HC.out.ext E3) (by omega)).mono ?_
    rintro e w4 ⟨rfl, F4⟩
    go_wp2
    go_ret
    exact ⟨by rw [HV.out, HW.out]; rfl, E3.trans F4⟩
  · have HW := Lib.hid (show dflB cs d = true by simp only [dflB, hd]; rfl)
    go_wp2
    go_ret
    exact ⟨by rw [HV.out, HW.out]; rfl, E3⟩
end Go.Proofs.YtidahgoihgodnaaDoor
