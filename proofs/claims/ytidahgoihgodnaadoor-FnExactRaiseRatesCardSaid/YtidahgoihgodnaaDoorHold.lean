/- The ten conditions: contracts of the implementation. Printed by wip/tools/gen_hold.py. -/
import Derived.Test.YtidahgoihgodnaaDoorCond
namespace Go.Proofs.YtidahgoihgodnaaDoor
open Go.RowKit
set_option maxRecDepth 20000
set_option maxHeartbeats 1000000
set_option linter.unusedSimpArgs false
set_option linter.unusedVariables false

def neverP (_ : Nat) : Bool := false
theorem all_succ {P : Nat → Bool} {k : Nat} (h : ∀ j, j < k → P j = false) (h2 : P k = false) : ∀ j, j < k + 1 → P j = false := fun j hj => by
  rcases Nat.lt_or_eq_of_le (Nat.le_of_lt_succ hj) with h3 | h3
  · exact h j h3
  · rw [h3]; exact h2
theorem idAt_of {cs : List Cls} {k : Nat} {x : Cls} (h : k < cs.length) (hx : x = cs[k]) : idAt cs k = x.id := by rw [idAt_is cs k h, hx]
theorem parAt_of {cs : List Cls} {k : Nat} {x : Cls} (h : k < cs.length) (hx : x = cs[k]) : parAt cs k = x.parent := by rw [parAt_is cs k h, hx]
theorem clsAt_of {cs : List Cls} {k : Nat} {x : Cls} (h : k < cs.length) (hx : x = cs[k]) (p : Cls → Bool) : clsAt cs k p = p x := by rw [clsAt_is cs k p h, hx]
theorem fltAt_of {fs : List Flt} {k : Nat} {x : Flt} (h : k < fs.length) (hx : x = fs[k]) (p : Flt → Bool) : fltAt fs k p = p x := by rw [fltAt_is fs k p h, hx]
theorem prioAt_of {fs : List Flt} {k : Nat} {x : Flt} (h : k < fs.length) (hx : x = fs[k]) : prioAt fs k = x.prio := by rw [prioAt_is fs k h, hx]
theorem impl_isId_any (a : Int) (w : World) :
    Calls Tryd.prog 84 #[.int .i64 a] w fun e w' => e = .returned (.bool (inR a 1 999)) ∧ w = w' := by
  go_enter Tryd.func84, Tryd.ntmps84
  go_wp2
  all_goals (go_ret; refine ⟨?_, rfl⟩; first | (simp [inR, *]; done) | (simp [inR, *]; omega))
theorem impl_rateRight_any (x : Cls) (w : World) :
    Calls Tryd.prog 69 #[clsV x] w fun e w' => e = .returned (.bool (rateB x)) ∧ Ext w w' := by
  go_enter Tryd.func69, Tryd.ntmps69
  go_wp2
  all_goals (go_ret; refine ⟨?_, (Ext.refl _).alloc _⟩; first | (simp [rateB, inR, *]; done) | (simp [rateB, inR, *]; omega))
theorem impl_burstRight_any (x : Cls) (w : World) :
    Calls Tryd.prog 72 #[clsV x] w fun e w' => e = .returned (.bool (burstB x)) ∧ Ext w w' := by
  go_enter Tryd.func72, Tryd.ntmps72
  go_wp2
  all_goals (go_ret; refine ⟨?_, (Ext.refl _).alloc _⟩; first | (simp [burstB, inR, *]; done) | (simp [burstB, inR, *]; omega))
theorem impl_filterRight_any (x : Flt) (w : World) :
    Calls Tryd.prog 87 #[fltW x] w fun e w' => e = .returned (.bool (filB1 x)) ∧ Ext w w' := by
  go_enter Tryd.func87, Tryd.ntmps87
  go_wp2
  all_goals (go_ret; refine ⟨?_, (Ext.refl _).alloc _⟩; first | (simp [filB1, fltB, inR, *]; done) | (simp [filB1, fltB, inR, *]; omega))
theorem impl_idsRight_any (n : ByteArray) (cv fv : Value) (d : Int) (cs : List Cls) (w : World) (hc : RdC w cv cs) (hcl : cs.length ≤ 1048576) :
    Calls Tryd.prog 65 #[cfgV n cv fv d] w fun e w' => e = .returned (.bool (idsB cs)) ∧ Ext w w' := by
  have HC := Lib.hid hc
  obtain ⟨CA, cc, rfl, hcc, hrc⟩ := hc
  have HR := Lib.hid hrc
  clear hrc
  have E0 := (Ext.refl w).alloc (.cells #[.string n, .slice CA cs.length cc, fv, .int .i64 d] 30)
  go_enter Tryd.func65, Tryd.ntmps65
  go_wp2
  go_loopw [8] (fun t wr => ∃ k : Nat, k ≤ cs.length ∧ t = .int .i64 (k : Int) ∧ Hid (∀ j, j < k → idBad cs j = false) ∧ Ext (w.alloc (.cells #[.string n, .slice CA cs.length cc, fv, .int .i64 d] 30)) wr) (fun t _ => cs.length - (intOf t).toNat)
  case atStart => exact ⟨0, Nat.zero_le _, rfl, fun j hj => absurd hj (Nat.not_lt_zero _), Ext.refl _⟩
  case round =>
    obtain ⟨k, hk, rfl, hq, hx⟩ := hrel
    have hxw := Ext.trans ((Ext.refl w).alloc (.cells #[.string n, .slice CA cs.length cc, fv, .int .i64 d] 30)) hx
    have BX := Lib.hid ((Box.new w n (.slice CA cs.length cc) fv d 30).ext hx)
    obtain ⟨q0, q1, q2, q3, q4⟩ := BX.out
    by_cases hlt : k < cs.length
    · have HEQ := Lib.hid (List.getElem?_eq_getElem hlt)
      obtain ⟨b, o, hCA, hb, hcell⟩ := HR.out k cs[k] (List.getElem?_eq_getElem hlt)
      obtain ⟨x, hxe⟩ : ∃ x, x = cs[k] := ⟨_, rfl⟩
      rw [← hxe] at hcell
      have HX := Lib.hid hxe
      clear hxe
      subst hCA
      have c0 : wr.cell? ⟨b, o + k * 8, none⟩ = some (.int .i64 x.id) := by rw [Ext.cell hxw hb]; exact hcell 0 _ rfl
      have c1 : wr.cell? ⟨b, o + k * 8 + 1, none⟩ = some (.int .i64 x.parent) := by rw [Ext.cell hxw hb]; exact hcell 1 _ rfl
      have c2 : wr.cell? ⟨b, o + k * 8 + 2, none⟩ = some (.int .i64 x.rate) := by rw [Ext.cell hxw hb]; exact hcell 2 _ rfl
      have c3 : wr.cell? ⟨b, o + k * 8 + 3, none⟩ = some (.int .i64 x.ceil) := by rw [Ext.cell hxw hb]; exact hcell 3 _ rfl
      have c4 : wr.cell? ⟨b, o + k * 8 + 4, none⟩ = some (.int .i64 x.burst) := by rw [Ext.cell hxw hb]; exact hcell 4 _ rfl
      have c5 : wr.cell? ⟨b, o + k * 8 + 5, none⟩ = some (.int .i64 x.cburst) := by rw [Ext.cell hxw hb]; exact hcell 5 _ rfl
      have c6 : wr.cell? ⟨b, o + k * 8 + 6, none⟩ = some (.int .i64 x.prio) := by rw [Ext.cell hxw hb]; exact hcell 6 _ rfl
      have c7 : wr.cell? ⟨b, o + k * 8 + 7, none⟩ = some (.int .i64 x.limit) := by rw [Ext.cell hxw hb]; exact hcell 7 _ rfl
      have z0 : b < wr.heap.size := Ext.lts hxw _ hb
      have z1 : b < wr.heap.size + 1 := by omega
      have q5 : w.heap.size < wr.heap.size + 1 := by omega
      have HI := Lib.hid (idAt_of hlt HX.out)
      go_wp2_with fail
      clear c0 c1 c2 c3 c4 c5 c6 c7
      cases hi : inR x.id 1 999
      · have HE := Lib.hid (show idBad cs k = true by simp only [idBad, HI.out, hi]; rfl)
        clear hcell
        (go_wp2_with fail; refine wp_region_ext (by kernel_rfl) (by kernel_rfl) ?_; (repeat (first | go_big_quiet_step ((first | (go_at_call 84; exact calls_later_same (impl_isId_any _ _ )))) | quiet_step ((first | (go_at_call 84; exact calls_later_same (impl_isId_any _ _ )))))); refine wpQuiet_nil ?_; intro wq hbq; have hcq := Ext.cells hbq; have hzq := Ext.frozens hbq; have hsq := Ext.lts hbq)
        have HV := Lib.hid (show idsB cs = false by rw [idsB, noN_found hlt HE.out]; rfl)
        go_wp2
        go_ret
        exact ⟨by rw [HV.out]; rfl, (hxw.alloc _).trans hbq⟩
      · by_cases hk0 : k = 0
        · have HE := Lib.hid (show idBad cs k = false by simp only [idBad, HI.out, hi]; simp [hk0])
          have hk0' : (k : Int) = 0 := by omega
          clear hcell
          (go_wp2_with fail; refine wp_region_ext (by kernel_rfl) (by kernel_rfl) ?_; (repeat (first | go_big_quiet_step ((first | (go_at_call 84; exact calls_later_same (impl_isId_any _ _ )))) | quiet_step ((first | (go_at_call 84; exact calls_later_same (impl_isId_any _ _ )))))); refine wpQuiet_nil ?_; intro wq hbq; have hcq := Ext.cells hbq; have hzq := Ext.frozens hbq; have hsq := Ext.lts hbq)
          go_wp2
          go_roundw
          case rel => exact ⟨k + 1, by omega, by go_num, all_succ hq.out HE.out, (hx.alloc _).trans hbq⟩
          case measure => simp [intOf]; omega
        · have hk0' : 0 < k := by omega
          have hk1 : k - 1 < cs.length := by omega
          have hki : ((k : Int) - 1) = ((k - 1 : Nat) : Int) := by omega
          obtain ⟨b', o', hAA, hb', hcell'⟩ := HR.out (k - 1) cs[k - 1] (List.getElem?_eq_getElem hk1)
          simp only [Option.some.injEq, Addr.mk.injEq, and_true] at hAA
          obtain ⟨rfl, rfl⟩ := hAA
          obtain ⟨y, hye⟩ : ∃ y, y = cs[k - 1] := ⟨_, rfl⟩
          rw [← hye] at hcell'
          have HY := Lib.hid hye
          clear hye
          have d0 : wr.cell? ⟨b, o + (k - 1) * 8, none⟩ = some (.int .i64 y.id) := by rw [Ext.cell hxw hb]; exact hcell' 0 _ rfl
          clear hcell hcell' hb'
          have HIY := Lib.hid (idAt_of hk1 HY.out)
          by_cases hle : x.id ≤ y.id
          · have HE := Lib.hid (show idBad cs k = true by simp only [idBad, HI.out, HIY.out, hi]; simp [hle]; omega)
            (go_wp2_with fail; refine wp_region_ext (by kernel_rfl) (by kernel_rfl) ?_; (repeat (first | go_big_quiet_step ((first | (go_at_call 84; exact calls_later_same (impl_isId_any _ _ )))) | quiet_step ((first | (go_at_call 84; exact calls_later_same (impl_isId_any _ _ )))))); refine wpQuiet_nil ?_; intro wq hbq; have hcq := Ext.cells hbq; have hzq := Ext.frozens hbq; have hsq := Ext.lts hbq)
            have HV := Lib.hid (show idsB cs = false by rw [idsB, noN_found hlt HE.out]; rfl)
            go_wp2
            go_ret
            exact ⟨by rw [HV.out]; rfl, (hxw.alloc _).trans hbq⟩
          · have HE := Lib.hid (show idBad cs k = false by simp only [idBad, HI.out, HIY.out, hi]; simp [hle])
            (go_wp2_with fail; refine wp_region_ext (by kernel_rfl) (by kernel_rfl) ?_; (repeat (first | go_big_quiet_step ((first | (go_at_call 84; exact calls_later_same (impl_isId_any _ _ )))) | quiet_step ((first | (go_at_call 84; exact calls_later_same (impl_isId_any _ _ )))))); refine wpQuiet_nil ?_; intro wq hbq; have hcq := Ext.cells hbq; have hzq := Ext.frozens hbq; have hsq := Ext.lts hbq)
            go_wp2
            go_roundw
            case rel => exact ⟨k + 1, by omega, by go_num, all_succ hq.out HE.out, (hx.alloc _).trans hbq⟩
            case measure => simp [intOf]; omega
    · obtain rfl : k = cs.length := by omega
      have HALL := Lib.hid ((noN_iff (idBad cs) _).2 hq.out)
      have HV := Lib.hid (show idsB cs = inR cs.length 1 24 by simp [idsB, HALL.out])
      by_cases h1 : (1 : Int) ≤ cs.length
      all_goals
        go_wp2
        go_ret
        exact ⟨by rw [HV.out]; simp [inR, h1]; try omega, hxw⟩
theorem impl_parentsRight_any (n : ByteArray) (cv fv : Value) (d : Int) (cs : List Cls) (w : World) (hc : RdC w cv cs) (hcl : cs.length ≤ 1048576) :
    Calls Tryd.prog 66 #[cfgV n cv fv d] w fun e w' => e = .returned (.bool (parB cs)) ∧ Ext w w' := by
  have HC := Lib.hid hc
  obtain ⟨CA, cc, rfl, hcc, hrc⟩ := hc
  have HR := Lib.hid hrc
  clear hrc
  have E0 := (Ext.refl w).alloc (.cells #[.string n, .slice CA cs.length cc, fv, .int .i64 d] 30)
  go_enter Tryd.func66, Tryd.ntmps66
  go_wp2
  go_loopw [9, 3] (fun t s wr => ∃ k : Nat, k ≤ cs.length ∧ t = .int .i64 (k : Int) ∧ s = .int .i64 (topsN cs k) ∧ Hid (∀ j, j < k → neverP j = false) ∧ Ext (w.alloc (.cells #[.string n, .slice CA cs.length cc, fv, .int .i64 d] 30)) wr) (fun t _ _ => cs.length - (intOf t).toNat)
  case atStart => exact ⟨0, Nat.zero_le _, rfl, rfl, fun j hj => absurd hj (Nat.not_lt_zero _), Ext.refl _⟩
  case round =>
    obtain ⟨k, hk, rfl, rfl, hq, hx⟩ := hrel
    have hxw := Ext.trans ((Ext.refl w).alloc (.cells #[.string n, .slice CA cs.length cc, fv, .int .i64 d] 30)) hx
    have BX := Lib.hid ((Box.new w n (.slice CA cs.length cc) fv d 30).ext hx)
    obtain ⟨q0, q1, q2, q3, q4⟩ := BX.out
    by_cases hlt : k < cs.length
    · have HEQ := Lib.hid (List.getElem?_eq_getElem hlt)
      obtain ⟨b, o, hCA, hb, hcell⟩ := HR.out k cs[k] (List.getElem?_eq_getElem hlt)
      obtain ⟨x, hxe⟩ : ∃ x, x = cs[k] := ⟨_, rfl⟩
      rw [← hxe] at hcell
      have HX := Lib.hid hxe
      clear hxe
      subst hCA
      have c0 : wr.cell? ⟨b, o + k * 8, none⟩ = some (.int .i64 x.id) := by rw [Ext.cell hxw hb]; exact hcell 0 _ rfl
      have c1 : wr.cell? ⟨b, o + k * 8 + 1, none⟩ = some (.int .i64 x.parent) := by rw [Ext.cell hxw hb]; exact hcell 1 _ rfl
      have c2 : wr.cell? ⟨b, o + k * 8 + 2, none⟩ = some (.int .i64 x.rate) := by rw [Ext.cell hxw hb]; exact hcell 2 _ rfl
      have c3 : wr.cell? ⟨b, o + k * 8 + 3, none⟩ = some (.int .i64 x.ceil) := by rw [Ext.cell hxw hb]; exact hcell 3 _ rfl
      have c4 : wr.cell? ⟨b, o + k * 8 + 4, none⟩ = some (.int .i64 x.burst) := by rw [Ext.cell hxw hb]; exact hcell 4 _ rfl
      have c5 : wr.cell? ⟨b, o + k * 8 + 5, none⟩ = some (.int .i64 x.cburst) := by rw [Ext.cell hxw hb]; exact hcell 5 _ rfl
      have c6 : wr.cell? ⟨b, o + k * 8 + 6, none⟩ = some (.int .i64 x.prio) := by rw [Ext.cell hxw hb]; exact hcell 6 _ rfl
      have c7 : wr.cell? ⟨b, o + k * 8 + 7, none⟩ = some (.int .i64 x.limit) := by rw [Ext.cell hxw hb]; exact hcell 7 _ rfl
      have z0 : b < wr.heap.size := Ext.lts hxw _ hb
      have z1 : b < wr.heap.size + 1 := by omega
      have q5 : w.heap.size < wr.heap.size + 1 := by omega
      have HTS := Lib.hid (topsN_succ cs k)
      have HTP := Lib.hid (show topP cs k = (x.parent == 0) by rw [topP, parAt_of hlt HX.out])
      have hb0 := (topsN_bd cs k).1
      have hb1 : topsN cs k ≤ 1048576 := by have := (topsN_bd cs k).2; omega
      generalize topsN cs k = S at *
      have HE := Lib.hid (show neverP k = false from rfl)
      clear hcell
      by_cases hp : x.parent = 0
      · have HT := Lib.hid (show topP cs k = true by rw [HTP.out]; simp [hp])
        go_wp2
        go_roundw
        case rel => exact ⟨k + 1, by omega, by go_num, by rw [HTS.out, HT.out]; go_num, all_succ hq.out HE.out, hx.alloc _⟩
        case measure => simp [intOf]; omega
      · have HT := Lib.hid (show topP cs k = false by rw [HTP.out]; simp [hp])
        go_wp2
        go_roundw
        case rel => exact ⟨k + 1, by omega, by go_num, by rw [HTS.out, HT.out]; simp, all_succ hq.out HE.out, hx.alloc _⟩
        case measure => simp [intOf]; omega
    · obtain rfl : k = cs.length := by omega
      have HALL := Lib.hid ((noN_iff (neverP) _).2 hq.out)
      clear HALL
      by_cases ht : topsN cs cs.length = 1
      · have HV := Lib.hid (show parB cs = ((((badP cs).length : Nat) : Int) == 0) by rw [parB, ht, ← pick_len0]; rfl)
        go_wp2_with fail
        refine (impl_badParents_any n _ fv d cs _ (HC.out.ext hxw) (by omega)).mono ?_
        rintro e w1 ⟨u1, rfl, O1, F1⟩
        obtain ⟨A1, k1, rfl, _, _⟩ := Own.rd O1 icell_len
        clear O1
        go_wp2
        go_ret
        exact ⟨by rw [HV.out]; rfl, hxw.trans F1⟩
      · have HV := Lib.hid (show parB cs = false by simp [parB, ht])
        go_wp2
        go_ret
        exact ⟨by rw [HV.out]; rfl, hxw⟩
theorem impl_waysRight_any (n : ByteArray) (cv fv : Value) (d : Int) (cs : List Cls) (w : World) (hc : RdC w cv cs) (hcl : cs.length ≤ 1048576) :
    Calls Tryd.prog 67 #[cfgV n cv fv d] w fun e w' => e = .returned (.bool (wayB cs)) ∧ Ext w w' := by
  have HC := Lib.hid hc
  obtain ⟨CA, cc, rfl, hcc, hrc⟩ := hc
  have HR := Lib.hid hrc
  clear hrc
  have E0 := (Ext.refl w).alloc (.cells #[.string n, .slice CA cs.length cc, fv, .int .i64 d] 30)
  go_enter Tryd.func67, Tryd.ntmps67
  go_wp2
  go_loopw [9] (fun t wr => ∃ k : Nat, k ≤ cs.length ∧ t = .int .i64 (k : Int) ∧ Hid (∀ j, j < k → wayBad cs j = false) ∧ Ext (w.alloc (.cells #[.string n, .slice CA cs.length cc, fv, .int .i64 d] 30)) wr) (fun t _ => cs.length - (intOf t).toNat)
  case atStart => exact ⟨0, Nat.zero_le _, rfl, fun j hj => absurd hj (Nat.not_lt_zero _), Ext.refl _⟩
  case round =>
    obtain ⟨k, hk, rfl, hq, hx⟩ := hrel
    have hxw := Ext.trans ((Ext.refl w).alloc (.cells #[.string n, .slice CA cs.length cc, fv, .int .i64 d] 30)) hx
    have BX := Lib.hid ((Box.new w n (.slice CA cs.length cc) fv d 30).ext hx)
    obtain ⟨q0, q1, q2, q3, q4⟩ := BX.out
    by_cases hlt : k < cs.length
    · have z9 : True := trivial
      go_wp2_with fail
      refine (impl_rawWay_any n _ fv d k cs _ (HC.out.ext hxw) hlt (by omega)).mono ?_
      rintro e w1 ⟨u1, rfl, O1, F1⟩
      obtain ⟨ha, hb0, _, hst⟩ := wayN_spec (upF_bd cs) hlt
      obtain ⟨u, hu⟩ := Int.eq_ofNat_of_zero_le (stopU_false (hst (wayN (upF cs) k cs.length - 1) (by omega))).1
      have hul : u < cs.length := by have := itU_bd (upF_bd cs) hlt (wayN (upF cs) k cs.length - 1); omega
      have HWB := Lib.hid (show wayBad cs k = (deepP cs k || (parAt cs u != 0)) by simp only [wayBad, hu, Int.toNat_natCast])
      obtain ⟨A1, k1, hv1, _, hr1⟩ := Own.rd O1 icell_len
      obtain ⟨b1, o1, rfl, hb1, hcw⟩ := hr1 (wayN (upF cs) k cs.length - 1) u (by rw [wayL_get _ _ _ _ (by omega), hu])
      rw [wayL_len] at hv1
      subst hv1
      clear O1 q0 q1 q2 q3 q4 hr1 hst hu
      have D1 := hx.trans F1
      have HDP := Lib.hid (show deepP cs k = (!endsU (upF cs) k cs.length || decide (8 < wayN (upF cs) k cs.length)) from rfl)
      generalize hwn : wayN (upF cs) k cs.length = wn at ha hb0 hcw HDP ⊢
      have hwc : w1.cell? ⟨b1, o1 + (wn - 1), none⟩ = some (.int .i64 (u : Int)) := by simpa using hcw 0 _ rfl
      have hwi : ((wn : Int) - 1) = ((wn - 1 : Nat) : Int) := by omega
      have hww : IntKind.i64.wrap ((wn - 1 : Nat) : Int) = ((wn - 1 : Nat) : Int) := by rw [IntKind.wrap_i64]; omega
      have hwl : wn - 1 < wn := by omega
      have z2 : b1 < w1.heap.size := hb1
      clear hcw
      obtain ⟨b, o, hCA, hb, hcell⟩ := HR.out u cs[u] (List.getElem?_eq_getElem hul)
      have HPA := Lib.hid (parAt_is cs u hul)
      generalize cs[u] = x at hcell HPA
      subst hCA
      have c1 : w1.cell? ⟨b, o + u * 8 + 1, none⟩ = some (.int .i64 x.parent) := by rw [Ext.cell (hxw.trans F1) hb]; exact hcell 1 _ rfl
      clear hcell
      obtain ⟨q0, q1, q2, q3, q4⟩ := BX.out.ext F1
      have z0 : b < w1.heap.size := Ext.lts (hxw.trans F1) _ hb
      cases he : endsU (upF cs) k cs.length
      · have HE := Lib.hid (show wayBad cs k = true by rw [HWB.out, HDP.out, he]; rfl)
        go_wp2_with fail
        (go_wp2_with fail; refine wp_region_ext (by kernel_rfl) (by kernel_rfl) ?_; (repeat (first | go_big_quiet_step (fail) | quiet_step (fail))); refine wpQuiet_nil ?_; intro wq hbq; have hcq := Ext.cells hbq; have hzq := Ext.frozens hbq; have hsq := Ext.lts hbq)
        have HV := Lib.hid (show wayB cs = false from noN_found hlt HE.out)
        go_wp2
        go_ret
        exact ⟨by rw [HV.out]; rfl, (hxw.trans F1).trans hbq⟩
      · by_cases h8 : 8 < wn
        · have h8' : (8 : Int) < wn := by omega
          have HE := Lib.hid (show wayBad cs k = true by rw [HWB.out, HDP.out, he, decide_eq_true h8]; rfl)
          go_wp2_with fail
          (go_wp2_with fail; refine wp_region_ext (by kernel_rfl) (by kernel_rfl) ?_; (repeat (first | go_big_quiet_step (fail) | quiet_step (fail))); refine wpQuiet_nil ?_; intro wq hbq; have hcq := Ext.cells hbq; have hzq := Ext.frozens hbq; have hsq := Ext.lts hbq)
          have HV := Lib.hid (show wayB cs = false from noN_found hlt HE.out)
          go_wp2
          go_ret
          exact ⟨by rw [HV.out]; rfl, (hxw.trans F1).trans hbq⟩
        · have h8' : ¬ (8 : Int) < wn := by omega
          by_cases hp : x.parent = 0
          · have HE := Lib.hid (show wayBad cs k = false by rw [HWB.out, HDP.out, he, decide_eq_false h8, HPA.out, hp]; rfl)
            go_wp2_with fail
            (go_wp2_with fail; refine wp_region_ext (by kernel_rfl) (by kernel_rfl) ?_; (repeat (first | go_big_quiet_step (fail) | quiet_step (fail))); refine wpQuiet_nil ?_; intro wq hbq; have hcq := Ext.cells hbq; have hzq := Ext.frozens hbq; have hsq := Ext.lts hbq)
            go_wp2
            go_roundw
            case rel => exact ⟨k + 1, by omega, by go_num, all_succ hq.out HE.out, D1.trans hbq⟩
            case measure => simp [intOf]; omega
          · have hp' : (x.parent != 0) = true := by simp [hp]
            have HE := Lib.hid (show wayBad cs k = true by rw [HWB.out, HPA.out]; simp [hp])
            go_wp2_with fail
            (go_wp2_with fail; refine wp_region_ext (by kernel_rfl) (by kernel_rfl) ?_; (repeat (first | go_big_quiet_step (fail) | quiet_step (fail))); refine wpQuiet_nil ?_; intro wq hbq; have hcq := Ext.cells hbq; have hzq := Ext.frozens hbq; have hsq := Ext.lts hbq)
            have HV := Lib.hid (show wayB cs = false from noN_found hlt HE.out)
            go_wp2
            go_ret
            exact ⟨by rw [HV.out]; rfl, (hxw.trans F1).trans hbq⟩
    · obtain rfl : k = cs.length := by omega
      have HALL := Lib.hid ((noN_iff (wayBad cs) _).2 hq.out)
      have HV := Lib.hid (show wayB cs = true from HALL.out)
      go_wp2
      go_ret
      exact ⟨by rw [HV.out]; rfl, hxw⟩
theorem impl_limitRight_any (n : ByteArray) (cv fv : Value) (d : Int) (i : Nat) (cs : List Cls) (w : World) (hc : RdC w cv cs) (hi : i < cs.length) (hcl : cs.length ≤ 1048576) :
    Calls Tryd.prog 73 #[cfgV n cv fv d, .int .i64 (i : Int)] w fun e w' => e = .returned (.bool (!limBad cs i)) ∧ Ext w w' := by
  have HC := Lib.hid hc
  obtain ⟨CA, cc, rfl, hcc, hrc⟩ := hc
  obtain ⟨b, o, rfl, hb, hcell⟩ := hrc i cs[i] (List.getElem?_eq_getElem hi)
  have HLA := Lib.hid (limAt_is cs i hi)
  generalize cs[i] = x at hcell HLA
  clear hrc
  have c0 : w.cell? ⟨b, o + i * 8, none⟩ = some (.int .i64 x.id) := hcell 0 _ rfl
  have c1 : w.cell? ⟨b, o + i * 8 + 1, none⟩ = some (.int .i64 x.parent) := hcell 1 _ rfl
  have c2 : w.cell? ⟨b, o + i * 8 + 2, none⟩ = some (.int .i64 x.rate) := hcell 2 _ rfl
  have c3 : w.cell? ⟨b, o + i * 8 + 3, none⟩ = some (.int .i64 x.ceil) := hcell 3 _ rfl
  have c4 : w.cell? ⟨b, o + i * 8 + 4, none⟩ = some (.int .i64 x.burst) := hcell 4 _ rfl
  have c5 : w.cell? ⟨b, o + i * 8 + 5, none⟩ = some (.int .i64 x.cburst) := hcell 5 _ rfl
  have c6 : w.cell? ⟨b, o + i * 8 + 6, none⟩ = some (.int .i64 x.prio) := hcell 6 _ rfl
  have c7 : w.cell? ⟨b, o + i * 8 + 7, none⟩ = some (.int .i64 x.limit) := hcell 7 _ rfl
  clear hcell
  have HLB := Lib.hid (show limBad cs i = if leafB cs i then !inR (limAt cs i) 1 60 else limAt cs i != 0 from rfl)
  go_enter Tryd.func73, Tryd.ntmps73
  go_wp2_with fail
  refine (impl_isLeaf_any n _ fv d i cs _ (HC.out.ext (by (repeat (first | (with_reducible exact Ext.refl _) | (with_reducible assumption) | (with_reducible apply Ext.alloc) | (with_reducible apply Ext.drew) | (with_reducible apply Ext.drewN) | ((with_reducible refine Ext.setCell ?_ ?_ _); rotate_left; (focus (first | (simp; done) | (simp; omega) | omega))) | (with_reducible refine Ext.trans ?_ (by assumption)))))) hi hcl).mono ?_
  rintro e w1 ⟨rfl, F1⟩
  (have hca := Ext.cells F1; have hza := Ext.frozens F1; have hsa := Ext.lts F1; have hsa0 : w.heap.size < w1.heap.size := Ext.lts F1 _ (by simp <;> omega); have hca0 : ∀ o, w1.cell? ⟨w.heap.size, o, none⟩ = _ := fun o => Ext.cells F1 _ o (by simp <;> omega); have hza0 : ∀ o, w1.frozen? ⟨w.heap.size, o, none⟩ = _ := fun o => Ext.frozens F1 _ o (by simp <;> omega); have hsa1 : w.heap.size + 1 < w1.heap.size := Ext.lts F1 _ (by simp <;> omega); have hca1 : ∀ o, w1.cell? ⟨w.heap.size + 1, o, none⟩ = _ := fun o => Ext.cells F1 _ o (by simp <;> omega); have hza1 : ∀ o, w1.frozen? ⟨w.heap.size + 1, o, none⟩ = _ := fun o => Ext.frozens F1 _ o (by simp <;> omega); try clear hca hza)
  have E1 : Ext w w1 := Ext.trans (by (repeat (first | (with_reducible exact Ext.refl _) | (with_reducible assumption) | (with_reducible apply Ext.alloc) | (with_reducible apply Ext.drew) | (with_reducible apply Ext.drewN) | ((with_reducible refine Ext.setCell ?_ ?_ _); rotate_left; (focus (first | (simp; done) | (simp; omega) | omega))) | (with_reducible refine Ext.trans ?_ (by assumption))))) F1
  cases he : leafB cs i
  · have HV := Lib.hid (show (!limBad cs i) = (x.limit == 0) by rw [HLB.out, he, HLA.out]; simp [bne])
    go_wp2
    go_ret
    exact ⟨by rw [HV.out]; rfl, E1⟩
  · have HV := Lib.hid (show (!limBad cs i) = inR x.limit 1 60 by rw [HLB.out, he, HLA.out]; simp)
    by_cases h1 : 1 ≤ x.limit
    all_goals
      go_wp2
      go_ret
      exact ⟨by rw [HV.out]; simp [inR, h1]; try omega, E1⟩
theorem impl_filtersRight_any (n : ByteArray) (cv fv : Value) (d : Int) (cs : List Cls) (fs : List Flt) (w : World) (hc : RdC w cv cs) (hf : RdF w fv fs) (hcl : cs.length ≤ 1048576) (hfl : fs.length ≤ 1048576) :
    Calls Tryd.prog 74 #[cfgV n cv fv d] w fun e w' => e = .returned (.bool (filB cs fs)) ∧ Ext w w' := by
  have HC := Lib.hid hc
  have HF := Lib.hid hf
  obtain ⟨FA, fc, rfl, hcc, hrc⟩ := hf
  have HR := Lib.hid hrc
  clear hrc hc
  have E0 := (Ext.refl w).alloc (.cells #[.string n, cv, .slice FA fs.length fc, .int .i64 d] 30)
  go_enter Tryd.func74, Tryd.ntmps74
  go_wp2
  go_loopw [8] (fun t wr => ∃ k : Nat, k ≤ fs.length ∧ t = .int .i64 (k : Int) ∧ Hid (∀ j, j < k → filBad cs fs j = false) ∧ Ext (w.alloc (.cells #[.string n, cv, .slice FA fs.length fc, .int .i64 d] 30)) wr) (fun t _ => fs.length - (intOf t).toNat)
  case atStart => exact ⟨0, Nat.zero_le _, rfl, fun j hj => absurd hj (Nat.not_lt_zero _), Ext.refl _⟩
  case round =>
    obtain ⟨k, hk, rfl, hq, hx⟩ := hrel
    have hxw := Ext.trans ((Ext.refl w).alloc (.cells #[.string n, cv, .slice FA fs.length fc, .int .i64 d] 30)) hx
    have BX := Lib.hid ((Box.new w n cv (.slice FA fs.length fc) d 30).ext hx)
    obtain ⟨q0, q1, q2, q3, q4⟩ := BX.out
    by_cases hlt : k < fs.length
    · have HEQ := Lib.hid (List.getElem?_eq_getElem hlt)
      obtain ⟨b, o, hCA, hb, hcell⟩ := HR.out k fs[k] (List.getElem?_eq_getElem hlt)
      obtain ⟨x, hxe⟩ : ∃ x, x = fs[k] := ⟨_, rfl⟩
      rw [← hxe] at hcell
      have HX := Lib.hid hxe
      clear hxe
      subst hCA
      have c0 : wr.cell? ⟨b, o + k * 5, none⟩ = some (.int .i64 x.prio) := by rw [Ext.cell hxw hb]; exact hcell 0 _ rfl
      have c1 : wr.cell? ⟨b, o + k * 5 + 1, none⟩ = some (.int .i64 x.field) := by rw [Ext.cell hxw hb]; exact hcell 1 _ rfl
      have c2 : wr.cell? ⟨b, o + k * 5 + 2, none⟩ = some (.int .i64 x.mask) := by rw [Ext.cell hxw hb]; exact hcell 2 _ rfl
      have c3 : wr.cell? ⟨b, o + k * 5 + 3, none⟩ = some (.int .i64 x.value) := by rw [Ext.cell hxw hb]; exact hcell 3 _ rfl
      have c4 : wr.cell? ⟨b, o + k * 5 + 4, none⟩ = some (.int .i64 x.target) := by rw [Ext.cell hxw hb]; exact hcell 4 _ rfl
      have z0 : b < wr.heap.size := Ext.lts hxw _ hb
      have z1 : b < wr.heap.size + 1 := by omega
      have q5 : w.heap.size < wr.heap.size + 1 := by omega
      have HPI := Lib.hid (prioAt_of hlt HX.out)
      have HFB := Lib.hid (fltAt_of hlt HX.out fun x => !filB1 x)
      have HBT := Lib.hid (show btP cs fs k = !leafIdB cs x.target from fltAt_of hlt HX.out _)
      have hxa := (hxw.alloc (.cells #[.int .i64 x.prio, .int .i64 x.field, .int .i64 x.mask, .int .i64 x.value, .int .i64 x.target] 66))
      go_wp2_with fail
      clear c0 c1 c2 c3 c4
      cases hi : filB1 x
      · have HE := Lib.hid (show filBad cs fs k = true by simp only [filBad, HFB.out, hi]; rfl)
        clear hcell
        (go_wp2_with fail; refine wp_region_ext (by kernel_rfl) (by kernel_rfl) ?_; (repeat (first | go_big_quiet_step ((first | (go_at_call 87; exact calls_later (impl_filterRight_any _ _ )) | (go_at_call 75; exact calls_later (impl_isLeafId_any _ _ _ _ _ _ _ (HC.out.ext (hxa.trans (Later.ext _))) (by omega))))) | quiet_step ((first | (go_at_call 87; exact calls_later (impl_filterRight_any _ _ )) | (go_at_call 75; exact calls_later (impl_isLeafId_any _ _ _ _ _ _ _ (HC.out.ext (hxa.trans (Later.ext _))) (by omega))))))); refine wpQuiet_nil ?_; intro wq hbq; have hcq := Ext.cells hbq; have hzq := Ext.frozens hbq; have hsq := Ext.lts hbq)
        have HV := Lib.hid (show filB cs fs = false by rw [filB, noN_found hlt HE.out]; rfl)
        go_wp2
        go_ret
        exact ⟨by rw [HV.out]; rfl, (hxw.alloc _).trans hbq⟩
      · have HFO := Lib.hid hi
        by_cases hk0 : k = 0
        · have hk0' : (k : Int) = 0 := by omega
          clear hcell
          cases ht : leafIdB cs x.target
          · have HE := Lib.hid (show filBad cs fs k = true by simp only [filBad, HFB.out, HFO.out, HBT.out, ht]; simp)
            (go_wp2_with fail; refine wp_region_ext (by kernel_rfl) (by kernel_rfl) ?_; (repeat (first | go_big_quiet_step ((first | (go_at_call 87; exact calls_later (impl_filterRight_any _ _ )) | (go_at_call 75; exact calls_later (impl_isLeafId_any _ _ _ _ _ _ _ (HC.out.ext (hxa.trans (Later.ext _))) (by omega))))) | quiet_step ((first | (go_at_call 87; exact calls_later (impl_filterRight_any _ _ )) | (go_at_call 75; exact calls_later (impl_isLeafId_any _ _ _ _ _ _ _ (HC.out.ext (hxa.trans (Later.ext _))) (by omega))))))); refine wpQuiet_nil ?_; intro wq hbq; have hcq := Ext.cells hbq; have hzq := Ext.frozens hbq; have hsq := Ext.lts hbq)
            have HV := Lib.hid (show filB cs fs = false by rw [filB, noN_found hlt HE.out]; rfl)
            go_wp2
            go_ret
            exact ⟨by rw [HV.out]; rfl, (hxw.alloc _).trans hbq⟩
          · have HE := Lib.hid (show filBad cs fs k = false by simp only [filBad, HFB.out, HFO.out, HBT.out, ht]; simp [hk0])
            (go_wp2_with fail; refine wp_region_ext (by kernel_rfl) (by kernel_rfl) ?_; (repeat (first | go_big_quiet_step ((first | (go_at_call 87; exact calls_later (impl_filterRight_any _ _ )) | (go_at_call 75; exact calls_later (impl_isLeafId_any _ _ _ _ _ _ _ (HC.out.ext (hxa.trans (Later.ext _))) (by omega))))) | quiet_step ((first | (go_at_call 87; exact calls_later (impl_filterRight_any _ _ )) | (go_at_call 75; exact calls_later (impl_isLeafId_any _ _ _ _ _ _ _ (HC.out.ext (hxa.trans (Later.ext _))) (by omega))))))); refine wpQuiet_nil ?_; intro wq hbq; have hcq := Ext.cells hbq; have hzq := Ext.frozens hbq; have hsq := Ext.lts hbq)
            go_wp2
            go_roundw
            case rel => exact ⟨k + 1, by omega, by go_num, all_succ hq.out HE.out, (hx.alloc _).trans hbq⟩
            case measure => simp [intOf]; omega
        · have hk0' : 0 < k := by omega
          have hk1 : k - 1 < fs.length := by omega
          have hki : ((k : Int) - 1) = ((k - 1 : Nat) : Int) := by omega
          obtain ⟨b', o', hAA, hb', hcell'⟩ := HR.out (k - 1) fs[k - 1] (List.getElem?_eq_getElem hk1)
          simp only [Option.some.injEq, Addr.mk.injEq, and_true] at hAA
          obtain ⟨rfl, rfl⟩ := hAA
          obtain ⟨y, hye⟩ : ∃ y, y = fs[k - 1] := ⟨_, rfl⟩
          rw [← hye] at hcell'
          have HY := Lib.hid hye
          clear hye
          have d0 : wr.cell? ⟨b, o + (k - 1) * 5, none⟩ = some (.int .i64 y.prio) := by rw [Ext.cell hxw hb]; exact hcell' 0 _ rfl
          clear hcell hcell' hb'
          have HPY := Lib.hid (prioAt_of hk1 HY.out)
          by_cases hle : x.prio ≤ y.prio
          · have HE := Lib.hid (show filBad cs fs k = true by simp only [filBad, HFB.out, HPI.out, HPY.out, HFO.out]; simp [hle]; omega)
            (go_wp2_with fail; refine wp_region_ext (by kernel_rfl) (by kernel_rfl) ?_; (repeat (first | go_big_quiet_step ((first | (go_at_call 87; exact calls_later (impl_filterRight_any _ _ )) | (go_at_call 75; exact calls_later (impl_isLeafId_any _ _ _ _ _ _ _ (HC.out.ext (hxa.trans (Later.ext _))) (by omega))))) | quiet_step ((first | (go_at_call 87; exact calls_later (impl_filterRight_any _ _ )) | (go_at_call 75; exact calls_later (impl_isLeafId_any _ _ _ _ _ _ _ (HC.out.ext (hxa.trans (Later.ext _))) (by omega))))))); refine wpQuiet_nil ?_; intro wq hbq; have hcq := Ext.cells hbq; have hzq := Ext.frozens hbq; have hsq := Ext.lts hbq)
            have HV := Lib.hid (show filB cs fs = false by rw [filB, noN_found hlt HE.out]; rfl)
            go_wp2
            go_ret
            exact ⟨by rw [HV.out]; rfl, (hxw.alloc _).trans hbq⟩
          · cases ht : leafIdB cs x.target
            · have HE := Lib.hid (show filBad cs fs k = true by simp only [filBad, HFB.out, HFO.out, HBT.out, ht]; simp)
              (go_wp2_with fail; refine wp_region_ext (by kernel_rfl) (by kernel_rfl) ?_; (repeat (first | go_big_quiet_step ((first | (go_at_call 87; exact calls_later (impl_filterRight_any _ _ )) | (go_at_call 75; exact calls_later (impl_isLeafId_any _ _ _ _ _ _ _ (HC.out.ext (hxa.trans (Later.ext _))) (by omega))))) | quiet_step ((first | (go_at_call 87; exact calls_later (impl_filterRight_any _ _ )) | (go_at_call 75; exact calls_later (impl_isLeafId_any _ _ _ _ _ _ _ (HC.out.ext (hxa.trans (Later.ext _))) (by omega))))))); refine wpQuiet_nil ?_; intro wq hbq; have hcq := Ext.cells hbq; have hzq := Ext.frozens hbq; have hsq := Ext.lts hbq)
              have HV := Lib.hid (show filB cs fs = false by rw [filB, noN_found hlt HE.out]; rfl)
              go_wp2
              go_ret
              exact ⟨by rw [HV.out]; rfl, (hxw.alloc _).trans hbq⟩
            · have HE := Lib.hid (show filBad cs fs k = false by simp only [filBad, HFB.out, HPI.out, HPY.out, HFO.out, HBT.out, ht]; simp [hle])
              (go_wp2_with fail; refine wp_region_ext (by kernel_rfl) (by kernel_rfl) ?_; (repeat (first | go_big_quiet_step ((first | (go_at_call 87; exact calls_later (impl_filterRight_any _ _ )) | (go_at_call 75; exact calls_later (impl_isLeafId_any _ _ _ _ _ _ _ (HC.out.ext (hxa.trans (Later.ext _))) (by omega))))) | quiet_step ((first | (go_at_call 87; exact calls_later (impl_filterRight_any _ _ )) | (go_at_call 75; exact calls_later (impl_isLeafId_any _ _ _ _ _ _ _ (HC.out.ext (hxa.trans (Later.ext _))) (by omega))))))); refine wpQuiet_nil ?_; intro wq hbq; have hcq := Ext.cells hbq; have hzq := Ext.frozens hbq; have hsq := Ext.lts hbq)
              go_wp2
              go_roundw
              case rel => exact ⟨k + 1, by omega, by go_num, all_succ hq.out HE.out, (hx.alloc _).trans hbq⟩
              case measure => simp [intOf]; omega
    · obtain rfl : k = fs.length := by omega
      have HALL := Lib.hid ((noN_iff (filBad cs fs) _).2 hq.out)
      have HV := Lib.hid (show filB cs fs = decide ((fs.length : Int) ≤ 16) by rw [filB, HALL.out]; rfl)
      go_wp2
      go_ret
      exact ⟨by rw [HV.out]; rfl, hxw⟩
theorem holds1_any (x : Cls) (w : World) :
    Calls Tryd.prog 68 #[clsV x] w fun e w' => e = .returned (.bool (!rateB x)) ∧ Ext w w' := by
  go_enter Tryd.func68, Tryd.ntmps68
  go_wp2_with fail
  refine (impl_rateRight_any x _).mono ?_
  rintro e w1 ⟨rfl, F1⟩
  go_wp2
  go_ret
  exact ⟨rfl, ((Ext.refl _).alloc _).trans F1⟩
theorem holds2_any (x : Cls) (w : World) :
    Calls Tryd.prog 71 #[clsV x] w fun e w' => e = .returned (.bool (!burstB x)) ∧ Ext w w' := by
  go_enter Tryd.func71, Tryd.ntmps71
  go_wp2_with fail
  refine (impl_burstRight_any x _).mono ?_
  rintro e w1 ⟨rfl, F1⟩
  go_wp2
  go_ret
  exact ⟨rfl, ((Ext.refl _).alloc _).trans F1⟩
theorem impl_holds_1 (n : ByteArray) (cv fv : Value) (d : Int) (cs : List Cls) (fs : List Flt) (w : World) (hk : Keys w) (hc : RdC w cv cs) (hf : RdF w fv fs) (hcl : cs.length ≤ 1048576) (hfl : fs.length ≤ 1048576) :
    Calls Tryd.prog 45 #[cfgV n cv fv d, .int .i64 1] w fun e w' => e = .returned (.bool (condB n cs fs d 1)) ∧ Ext w w' := by
  have HC := Lib.hid hc
  have HF := Lib.hid hf
  have HK := Lib.hid hk
  clear hc hf hk
  have E0 := (Ext.refl w).alloc (.cells #[.string n, cv, fv, .int .i64 d] 30)
  go_enter Tryd.func45, Tryd.ntmps45
  go_wp2_with fail
  refine (impl_isName_any n _ (HK.out.ext E0)).mono ?_
  rintro e w1 ⟨rfl, F1⟩
  go_wp2
  go_ret
  exact ⟨rfl, E0.trans F1⟩
theorem impl_holds_2 (n : ByteArray) (cv fv : Value) (d : Int) (cs : List Cls) (fs : List Flt) (w : World) (hk : Keys w) (hc : RdC w cv cs) (hf : RdF w fv fs) (hcl : cs.length ≤ 1048576) (hfl : fs.length ≤ 1048576) :
    Calls Tryd.prog 45 #[cfgV n cv fv d, .int .i64 2] w fun e w' => e = .returned (.bool (condB n cs fs d 2)) ∧ Ext w w' := by
  have HC := Lib.hid hc
  have HF := Lib.hid hf
  have HK := Lib.hid hk
  clear hc hf hk
  have E0 := (Ext.refl w).alloc (.cells #[.string n, cv, fv, .int .i64 d] 30)
  go_enter Tryd.func45, Tryd.ntmps45
  go_wp2_with fail
  refine (impl_idsRight_any n _ fv d cs _ (HC.out.ext E0) hcl).mono ?_
  rintro e w1 ⟨rfl, F1⟩
  go_wp2
  go_ret
  exact ⟨rfl, E0.trans F1⟩
theorem impl_holds_3 (n : ByteArray) (cv fv : Value) (d : Int) (cs : List Cls) (fs : List Flt) (w : World) (hk : Keys w) (hc : RdC w cv cs) (hf : RdF w fv fs) (hcl : cs.length ≤ 1048576) (hfl : fs.length ≤ 1048576) :
    Calls Tryd.prog 45 #[cfgV n cv fv d, .int .i64 3] w fun e w' => e = .returned (.bool (condB n cs fs d 3)) ∧ Ext w w' := by
  have HC := Lib.hid hc
  have HF := Lib.hid hf
  have HK := Lib.hid hk
  clear hc hf hk
  have E0 := (Ext.refl w).alloc (.cells #[.string n, cv, fv, .int .i64 d] 30)
  go_enter Tryd.func45, Tryd.ntmps45
  go_wp2_with fail
  refine (impl_parentsRight_any n _ fv d cs _ (HC.out.ext E0) hcl).mono ?_
  rintro e w1 ⟨rfl, F1⟩
  go_wp2
  go_ret
  exact ⟨rfl, E0.trans F1⟩
theorem impl_holds_4 (n : ByteArray) (cv fv : Value) (d : Int) (cs : List Cls) (fs : List Flt) (w : World) (hk : Keys w) (hc : RdC w cv cs) (hf : RdF w fv fs) (hcl : cs.length ≤ 1048576) (hfl : fs.length ≤ 1048576) :
    Calls Tryd.prog 45 #[cfgV n cv fv d, .int .i64 4] w fun e w' => e = .returned (.bool (condB n cs fs d 4)) ∧ Ext w w' := by
  have HC := Lib.hid hc
  have HF := Lib.hid hf
  have HK := Lib.hid hk
  clear hc hf hk
  have E0 := (Ext.refl w).alloc (.cells #[.string n, cv, fv, .int .i64 d] 30)
  go_enter Tryd.func45, Tryd.ntmps45
  go_wp2_with fail
  refine (impl_waysRight_any n _ fv d cs _ (HC.out.ext E0) hcl).mono ?_
  rintro e w1 ⟨rfl, F1⟩
  go_wp2
  go_ret
  exact ⟨rfl, E0.trans F1⟩
theorem impl_holds_5 (n : ByteArray) (cv fv : Value) (d : Int) (cs : List Cls) (fs : List Flt) (w : World) (hk : Keys w) (hc : RdC w cv cs) (hf : RdF w fv fs) (hcl : cs.length ≤ 1048576) (hfl : fs.length ≤ 1048576) :
    Calls Tryd.prog 45 #[cfgV n cv fv d, .int .i64 5] w fun e w' => e = .returned (.bool (condB n cs fs d 5)) ∧ Ext w w' := by
  have HC := Lib.hid hc
  have HF := Lib.hid hf
  have HK := Lib.hid hk
  clear hc hf hk
  have E0 := (Ext.refl w).alloc (.cells #[.string n, cv, fv, .int .i64 d] 30)
  go_enter Tryd.func45, Tryd.ntmps45
  go_wp2_with fail
  refine (impl_holds_1_contains (fun x => !rateB x) _ cs _ (HC.out.ext E0) hcl (fun x w' hx => holds1_any x w')).mono ?_
  rintro e w1 ⟨rfl, F1⟩
  go_wp2
  go_ret
  exact ⟨rfl, E0.trans F1⟩
theorem impl_holds_6 (n : ByteArray) (cv fv : Value) (d : Int) (cs : List Cls) (fs : List Flt) (w : World) (hk : Keys w) (hc : RdC w cv cs) (hf : RdF w fv fs) (hcl : cs.length ≤ 1048576) (hfl : fs.length ≤ 1048576) :
    Calls Tryd.prog 45 #[cfgV n cv fv d, .int .i64 6] w fun e w' => e = .returned (.bool (condB n cs fs d 6)) ∧ Ext w w' := by
  have HC := Lib.hid hc
  have HF := Lib.hid hf
  have HK := Lib.hid hk
  clear hc hf hk
  have E0 := (Ext.refl w).alloc (.cells #[.string n, cv, fv, .int .i64 d] 30)
  have HD := Lib.hid (show condB n cs fs d 6 = (cntB cs && noN (overP cs) cs.length) from rfl)
  go_enter Tryd.func45, Tryd.ntmps45
  go_wp2_with fail
  refine (impl_ratesCountable_any n _ fv d cs _ (HC.out.ext E0) hcl).mono ?_
  rintro e w1 ⟨rfl, F1⟩
  have E1 := E0.trans F1
  cases hr : cntB cs
  · have HV := Lib.hid (show condB n cs fs d 6 = false by rw [HD.out, hr]; rfl)
    go_wp2
    go_ret
    exact ⟨by rw [HV.out]; rfl, E1⟩
  · have HV := Lib.hid (show condB n cs fs d 6 = ((((pick (overP cs) cs.length).length : Nat) : Int) == 0) by rw [HD.out, hr, pick_len0]; rfl)
    have HRO := Lib.hid (cnt_ok hr)
    obtain ⟨q0, q1, q2, q3, _⟩ := (Box.new w n cv fv d 30).ext F1
    go_wp2_with fail
    clear q0 q1 q2 q3
    refine (impl_overfull_any n _ fv d cs _ (HC.out.ext E1) hcl HRO.out).mono ?_
    rintro e w2 ⟨u2, rfl, O2, F2⟩
    obtain ⟨A2, k2, rfl, _, _⟩ := Own.rd O2 icell_len
    clear O2
    go_wp2
    go_ret
    exact ⟨by rw [HV.out]; rfl, E1.trans F2⟩
theorem impl_holds_7 (n : ByteArray) (cv fv : Value) (d : Int) (cs : List Cls) (fs : List Flt) (w : World) (hk : Keys w) (hc : RdC w cv cs) (hf : RdF w fv fs) (hcl : cs.length ≤ 1048576) (hfl : fs.length ≤ 1048576) :
    Calls Tryd.prog 45 #[cfgV n cv fv d, .int .i64 7] w fun e w' => e = .returned (.bool (condB n cs fs d 7)) ∧ Ext w w' := by
  have HC := Lib.hid hc
  have HF := Lib.hid hf
  have HK := Lib.hid hk
  clear hc hf hk
  have E0 := (Ext.refl w).alloc (.cells #[.string n, cv, fv, .int .i64 d] 30)
  go_enter Tryd.func45, Tryd.ntmps45
  go_wp2_with fail
  refine (impl_holds_2_contains (fun x => !burstB x) _ cs _ (HC.out.ext E0) hcl (fun x w' hx => holds2_any x w')).mono ?_
  rintro e w1 ⟨rfl, F1⟩
  go_wp2
  go_ret
  exact ⟨rfl, E0.trans F1⟩
theorem impl_holds_9 (n : ByteArray) (cv fv : Value) (d : Int) (cs : List Cls) (fs : List Flt) (w : World) (hk : Keys w) (hc : RdC w cv cs) (hf : RdF w fv fs) (hcl : cs.length ≤ 1048576) (hfl : fs.length ≤ 1048576) :
    Calls Tryd.prog 45 #[cfgV n cv fv d, .int .i64 9] w fun e w' => e = .returned (.bool (condB n cs fs d 9)) ∧ Ext w w' := by
  have HC := Lib.hid hc
  have HF := Lib.hid hf
  have HK := Lib.hid hk
  clear hc hf hk
  have E0 := (Ext.refl w).alloc (.cells #[.string n, cv, fv, .int .i64 d] 30)
  go_enter Tryd.func45, Tryd.ntmps45
  go_wp2_with fail
  refine (impl_filtersRight_any n _ _ d cs fs _ (HC.out.ext E0) (HF.out.ext E0) hcl hfl).mono ?_
  rintro e w1 ⟨rfl, F1⟩
  go_wp2
  go_ret
  exact ⟨rfl, E0.trans F1⟩
theorem impl_holds_10 (n : ByteArray) (cv fv : Value) (d : Int) (cs : List Cls) (fs : List Flt) (w : World) (hk : Keys w) (hc : RdC w cv cs) (hf : RdF w fv fs) (hcl : cs.length ≤ 1048576) (hfl : fs.length ≤ 1048576) :
    Calls Tryd.prog 45 #[cfgV n cv fv d, .int .i64 10] w fun e w' => e = .returned (.bool (condB n cs fs d 10)) ∧ Ext w w' := by
  have HC := Lib.hid hc
  have HF := Lib.hid hf
  have HK := Lib.hid hk
  clear hc hf hk
  have E0 := (Ext.refl w).alloc (.cells #[.string n, cv, fv, .int .i64 d] 30)
  by_cases hd : d = 0
  · subst hd
    have HV := Lib.hid (show condB n cs fs 0 10 = true by simp [condB, dflB])
    go_enter Tryd.func45, Tryd.ntmps45
    go_wp2
    go_ret
    exact ⟨by rw [HV.out]; rfl, E0⟩
  · have HV := Lib.hid (show condB n cs fs d 10 = leafIdB cs d by simp [condB, dflB, hd])
    have hd' : (d == 0) = false := by simp [hd]
    go_enter Tryd.func45, Tryd.ntmps45
    go_wp2_with fail
    refine (impl_isLeafId_any n _ fv d d cs _ (HC.out.ext E0) hcl).mono ?_
    rintro e w1 ⟨rfl, F1⟩
    go_wp2
    go_ret
    exact ⟨by rw [HV.out]; rfl, E0.trans F1⟩
theorem impl_holds_any8 (n : ByteArray) (cv fv : Value) (d : Int) (cs : List Cls) (w : World) (hc : RdC w cv cs) (hcl : cs.length ≤ 1048576) :
    Calls Tryd.prog 45 #[cfgV n cv fv d, .int .i64 8] w fun e w' => e = .returned (.bool (noN (limBad cs) cs.length)) ∧ Ext w w' := by
  have HC := Lib.hid hc
  obtain ⟨CA, cc, rfl, hcc, hrc⟩ := hc
  have HR := Lib.hid hrc
  clear hrc
  have E0 := (Ext.refl w).alloc (.cells #[.string n, .slice CA cs.length cc, fv, .int .i64 d] 30)
  go_enter Tryd.func45, Tryd.ntmps45
  go_wp2
  go_loopw [51] (fun t wr => ∃ k : Nat, k ≤ cs.length ∧ t = .int .i64 (k : Int) ∧ Hid (∀ j, j < k → limBad cs j = false) ∧ Ext (w.alloc (.cells #[.string n, .slice CA cs.length cc, fv, .int .i64 d] 30)) wr) (fun t _ => cs.length - (intOf t).toNat)
  case atStart => exact ⟨0, Nat.zero_le _, rfl, fun j hj => absurd hj (Nat.not_lt_zero _), Ext.refl _⟩
  case round =>
    obtain ⟨k, hk, rfl, hq, hx⟩ := hrel
    have hxw := Ext.trans ((Ext.refl w).alloc (.cells #[.string n, .slice CA cs.length cc, fv, .int .i64 d] 30)) hx
    have BX := Lib.hid ((Box.new w n (.slice CA cs.length cc) fv d 30).ext hx)
    obtain ⟨q0, q1, q2, q3, q4⟩ := BX.out
    by_cases hlt : k < cs.length
    · have z9 : True := trivial
      go_wp2_with fail
      refine (impl_limitRight_any n _ fv d k cs _ (HC.out.ext hxw) hlt hcl).mono ?_
      rintro e w1 ⟨rfl, F1⟩
      cases he : limBad cs k
      · have HE := Lib.hid he
        go_wp2
        go_roundw
        case rel => exact ⟨k + 1, by omega, by go_num, all_succ hq.out HE.out, hx.trans F1⟩
        case measure => simp [intOf]; omega
      · have HE := Lib.hid he
        have HV := Lib.hid (noN_found hlt HE.out)
        go_wp2
        go_ret
        exact ⟨by rw [HV.out]; rfl, hxw.trans F1⟩
    · obtain rfl : k = cs.length := by omega
      have HALL := Lib.hid ((noN_iff (limBad cs) _).2 hq.out)
      have HV := Lib.hid (show noN (limBad cs) cs.length = true from HALL.out)
      go_wp2
      go_ret
      exact ⟨by rw [HV.out]; rfl, hxw⟩
theorem impl_holds_any (n : ByteArray) (cv fv : Value) (d : Int) (k : Nat) (cs : List Cls) (fs : List Flt) (w : World) (hk : Keys w) (hc : RdC w cv cs) (hf : RdF w fv fs) (hk0 : 0 < k) (hk1 : k ≤ 10) (hcl : cs.length ≤ 1048576) (hfl : fs.length ≤ 1048576) :
    Calls Tryd.prog 45 #[cfgV n cv fv d, .int .i64 (k : Int)] w fun e w' => e = .returned (.bool (condB n cs fs d k)) ∧ Ext w w' := by
  match k, hk0, hk1 with
  | 1, _, _ => exact impl_holds_1 n cv fv d cs fs w hk hc hf hcl hfl
  | 2, _, _ => exact impl_holds_2 n cv fv d cs fs w hk hc hf hcl hfl
  | 3, _, _ => exact impl_holds_3 n cv fv d cs fs w hk hc hf hcl hfl
  | 4, _, _ => exact impl_holds_4 n cv fv d cs fs w hk hc hf hcl hfl
  | 5, _, _ => exact impl_holds_5 n cv fv d cs fs w hk hc hf hcl hfl
  | 6, _, _ => exact impl_holds_6 n cv fv d cs fs w hk hc hf hcl hfl
  | 7, _, _ => exact impl_holds_7 n cv fv d cs fs w hk hc hf hcl hfl
  | 8, _, _ => exact impl_holds_any8 n cv fv d cs w hc hcl
  | 9, _, _ => exact impl_holds_9 n cv fv d cs fs w hk hc hf hcl hfl
  | 10, _, _ => exact impl_holds_10 n cv fv d cs fs w hk hc hf hcl hfl
  | k + 11, _, h => exact absurd h (by omega)
theorem impl_IsConfig_any (n : ByteArray) (cv fv : Value) (d : Int) (cs : List Cls) (fs : List Flt) (w : World) (hk : Keys w) (hc : RdC w cv cs) (hf : RdF w fv fs) (hz : n.size + cs.length + fs.length ≤ 1048576) :
    Calls Tryd.prog 26 #[cfgV n cv fv d] w fun e w' => e = .returned (.bool (goodB n cs fs d)) ∧ Ext w w' := by
  have HC := Lib.hid hc
  have HF := Lib.hid hf
  have HK := Lib.hid hk
  obtain ⟨CA, cc, rfl, hcc, _⟩ := hc
  obtain ⟨FA, fc, rfl, hfc, _⟩ := hf
  clear hk
  have E0 := (Ext.refl w).alloc (.cells #[.string n, .slice CA cs.length cc, .slice FA fs.length fc, .int .i64 d] 30)
  by_cases h1 : 24 < cs.length
  · have HV := Lib.hid (good_large n cs fs d (.inl h1))
    go_enter Tryd.func26, Tryd.ntmps26
    go_wp2
    go_ret
    exact ⟨by rw [HV.out]; rfl, E0⟩
  by_cases h2 : 16 < fs.length
  · have HV := Lib.hid (good_large n cs fs d (.inr h2))
    go_enter Tryd.func26, Tryd.ntmps26
    go_wp2
    go_ret
    exact ⟨by rw [HV.out]; rfl, E0⟩
  go_enter Tryd.func26, Tryd.ntmps26
  go_wp2
  go_loopw [3] (fun t wr => ∃ k : Nat, k ≤ 10 ∧ t = .int .i64 ((k : Int) + 1) ∧ Hid (∀ j, j < k → brkP n cs fs d j = false) ∧ Ext (w.alloc (.cells #[.string n, .slice CA cs.length cc, .slice FA fs.length fc, .int .i64 d] 30)) wr) (fun t _ => 11 - (intOf t).toNat)
  case atStart => exact ⟨0, Nat.zero_le _, rfl, fun j hj => absurd hj (Nat.not_lt_zero _), Ext.refl _⟩
  case round =>
    obtain ⟨k, hk, rfl, hq, hx⟩ := hrel
    have hxw := E0.trans hx
    obtain ⟨q0, q1, q2, q3, q4⟩ := (Box.new w n (.slice CA cs.length cc) (.slice FA fs.length fc) d 30).ext hx
    by_cases hlt : k < 10
    · go_wp2_with fail
      refine (impl_holds_any n _ _ d (k + 1) cs fs _ (HK.out.ext hxw) (HC.out.ext hxw) (HF.out.ext hxw) (by omega) (by omega) (by omega) (by omega)).mono ?_
      rintro e w1 ⟨rfl, F1⟩
      clear q0 q1 q2 q3 q4
      cases he : condB n cs fs d (k + 1)
      · have HV := Lib.hid (show goodB n cs fs d = false from noN_found hlt (by simp [brkP, he]))
        go_wp2
        go_ret
        exact ⟨by rw [HV.out]; rfl, hxw.trans F1⟩
      · have HE := Lib.hid (show brkP n cs fs d k = false by simp [brkP, he])
        go_wp2
        go_roundw
        case rel => exact ⟨k + 1, by omega, by go_num, all_succ hq.out HE.out, hx.trans F1⟩
        case measure => simp [intOf]; omega
    · obtain rfl : k = 10 := by omega
      have HV := Lib.hid (show goodB n cs fs d = true from (noN_iff _ _).2 hq.out)
      go_wp2
      go_ret
      exact ⟨by rw [HV.out]; rfl, hxw⟩
end Go.Proofs.YtidahgoihgodnaaDoor
