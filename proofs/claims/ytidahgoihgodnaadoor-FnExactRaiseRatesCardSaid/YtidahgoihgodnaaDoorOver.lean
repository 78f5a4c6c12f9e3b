/- Sums of rates, overfull classes: contracts of both sides. Printed by wip/tools/gen_way.py. -/
import Derived.Test.YtidahgoihgodnaaDoorBadT
import Derived.Test.YtidahgoihgodnaaDoorNum
namespace Go.Proofs.YtidahgoihgodnaaDoor
open Go.RowKit
set_option maxRecDepth 20000
set_option maxHeartbeats 1000000
set_option linter.unusedSimpArgs false
set_option linter.unusedVariables false

def rateAt (cs : List Cls) (i : Nat) : Int := match cs[i]? with
  | some x => x.rate
  | none => 0
theorem rateAt_is (cs : List Cls) (i : Nat) (h : i < cs.length) : rateAt cs i = cs[i].rate := by simp [rateAt, h]
/-- The sum of the rates of the first k classes of a list of indices. -/
def sumK (cs : List Cls) (l : List Int) : Nat → Int
  | 0 => 0
  | k + 1 => sumK cs l k + rateAt cs (l.getD k 0).toNat
def kidR (cs : List Cls) (i : Nat) : Int := sumK cs (kidL cs i) (kidL cs i).length
def RatesOk (cs : List Cls) : Prop := ∀ i, 0 ≤ rateAt cs i ∧ rateAt cs i ≤ 1000000000
theorem sumK_bd {cs : List Cls} (h : RatesOk cs) (l : List Int) : ∀ k, 0 ≤ sumK cs l k ∧ sumK cs l k ≤ 1000000000 * k
  | 0 => by simp [sumK]
  | k + 1 => by
    have h1 := sumK_bd h l k
    have h2 := h (l.getD k 0).toNat
    unfold sumK
    omega
theorem kidL_len (cs : List Cls) (i : Nat) : (kidL cs i).length ≤ cs.length := pick_len _ _
theorem kidR_bd {cs : List Cls} (h : RatesOk cs) (hcl : cs.length ≤ 1048576) (i : Nat) : 0 ≤ kidR cs i ∧ kidR cs i ≤ 1048576000000000 := by
  have h1 := sumK_bd h (kidL cs i) (kidL cs i).length
  have h2 := kidL_len cs i
  unfold kidR
  omega
theorem kidL_get (cs : List Cls) (i k : Nat) (h : k < (kidL cs i).length) : ∃ j : Nat, (kidL cs i)[k] = j ∧ j < cs.length := by
  obtain ⟨j, a, b, _⟩ := pick_mem (kidP cs i) _ cs.length (List.getElem_mem h)
  exact ⟨j, a, b⟩
/-- A rate that cannot be added. -/
def rateWild (x : Cls) : Bool := decide (x.rate < 0) || decide (1000000000 < x.rate)
/-- All rates can be added. -/
def cntB (cs : List Cls) : Bool := !decide (0 ≤ idxC cs rateWild)
theorem noC_spec (cs : List Cls) (p : Cls → Bool) (h : idxC cs p < 0) (i : Nat) (hi : i < cs.length) : p cs[i] = false := by
  have hb := fndN_bd (fun k => clsAt cs k p) cs.length 0
  have hs := (fndN_spec (fun k => clsAt cs k p) cs.length 0).1 (by unfold idxC at h; omega) i (by omega) (by omega)
  rwa [clsAt_is cs i p hi] at hs
theorem cnt_ok {cs : List Cls} (h : cntB cs = true) : RatesOk cs := by
  intro i
  by_cases hi : i < cs.length
  · have := noC_spec cs rateWild (by simp [cntB] at h; omega) i hi
    rw [rateAt_is cs i hi]
    simp [rateWild] at this
    omega
  · simp [rateAt, show cs[i]? = none from List.getElem?_eq_none (by omega)]
def overP (cs : List Cls) (k : Nat) : Bool := decide (rateAt cs k < kidR cs k)
def overV (n : ByteArray) (cs : List Cls) (fs : List Flt) (d : Int) : List Int := if smallCf cs fs && cntB cs then pick (overP cs) cs.length else []
theorem overV_len (n : ByteArray) (cs : List Cls) (fs : List Flt) (d : Int) : (overV n cs fs d).length ≤ 2000000 := by
  unfold overV
  split
  · rename_i h
    simp only [smallCf, Bool.and_eq_true, decide_eq_true_eq] at h
    have := pick_len (overP cs) cs.length
    omega
  · simp
theorem impl_childRates_any (n : ByteArray) (cv fv : Value) (d : Int) (i : Nat) (cs : List Cls) (w : World) (hc : RdC w cv cs) (hi : i < cs.length) (hcl : cs.length ≤ 1048576) (hr : RatesOk cs) :
    Calls Tryd.prog 48 #[cfgV n cv fv d, .int .i64 (i : Int)] w fun e w' => e = .returned (.int .i64 (kidR cs i)) ∧ Ext w w' := by
  have HC := Lib.hid hc
  have HRO := Lib.hid hr
  obtain ⟨CA, cc, rfl, hcc, hrc⟩ := hc
  have HR := Lib.hid hrc
  clear hr

  clear hrc
  go_enter Tryd.func48, Tryd.ntmps48
  go_wp2_with fail
  refine (impl_childrenOf_any n _ fv d i cs _ (HC.out.ext ((Ext.refl w).alloc _)) hi hcl).mono ?_
  rintro e w1 ⟨u1, rfl, O1, F1⟩
  have X1 := F1
  have HKL := Lib.hid (show kidR cs i = sumK cs (kidL cs i) (kidL cs i).length from rfl)
  have HKG := Lib.hid (kidL_get cs i)
  have hkl := kidL_len cs i
  obtain ⟨A1, k1, rfl, _, hr1⟩ := Own.rd O1 icell_len
  have HR1 := Lib.hid hr1
  clear O1 hr1

  generalize kidL cs i = l at *
  go_wp2
  go_loopw [12, 5] (fun t s wr => ∃ k : Nat, k ≤ l.length ∧ t = .int .i64 (k : Int) ∧ s = .int .i64 (sumK cs l k) ∧ Ext w1 wr) (fun t _ _ => l.length - (intOf t).toNat)
  case atStart => exact ⟨0, Nat.zero_le _, rfl, by simp [sumK], Ext.refl _⟩
  case round =>
    obtain ⟨k, hk, rfl, rfl, hx⟩ := hrel
    by_cases hlt : k < l.length
    · obtain ⟨b1, o1, rfl, hb1, hcw⟩ := HR1.out k l[k] (List.getElem?_eq_getElem hlt)
      obtain ⟨j, hj, hjl⟩ := HKG.out k hlt
      have c0 : wr.cell? ⟨b1, o1 + k, none⟩ = some (.int .i64 (j : Int)) := by rw [Ext.cell hx hb1, ← hj]; simpa using hcw 0 _ rfl
      have hsk : sumK cs l (k + 1) = sumK cs l k + cs[j].rate := by
        rw [sumK, List.getD_eq_getElem?_getD, List.getElem?_eq_getElem hlt, Option.getD_some, hj]
        exact congrArg _ (rateAt_is cs j hjl)
      have hrt := HRO.out j
      rw [rateAt_is cs j hjl] at hrt
      obtain ⟨b, o, hAA, hb, hcell⟩ := HR.out j cs[j] (List.getElem?_eq_getElem hjl)
      subst hAA
      generalize cs[j] = x at hcell hsk hrt
      have hxw := Ext.trans ((Ext.refl w).alloc _) (X1.trans hx)
      have c1 : wr.cell? ⟨b, o + j * 8 + 2, none⟩ = some (.int .i64 x.rate) := by rw [Ext.cell hxw hb]; exact hcell 2 _ rfl
      have HSK := Lib.hid hsk
      obtain ⟨h0, h1⟩ := hrt
      have h2 := (sumK_bd HRO.out l k).1
      have h3 : sumK cs l k ≤ 1048576000000000 := by have := (sumK_bd HRO.out l k).2; omega

      obtain ⟨q0, q1, q2, q3, q4⟩ := (Box.new w n (.slice (some ⟨b, o, none⟩) cs.length cc) fv d 30).ext (X1.trans hx)
      clear hcw hcell hsk hj
      generalize sumK cs l k = S at *
      go_wp2
      go_roundw
      case rel => exact ⟨k + 1, by omega, by go_num, by rw [HSK.out]; first | done | go_num | (congr 1; omega), hx⟩
      case measure => simp [intOf]; omega
    · obtain rfl : k = l.length := by omega
      go_wp2
      go_ret
      exact ⟨by rw [HKL.out]; rfl, Ext.trans ((Ext.refl w).alloc _) (X1.trans hx)⟩
theorem spec_cfSpare_any (n : ByteArray) (cv fv : Value) (d : Int) (i : Nat) (cs : List Cls) (w : World) (hc : RdC w cv cs) (hi : i < cs.length) (hcl : cs.length ≤ 1048576) (hr : RatesOk cs) :
    Calls Tryd.prog 42 #[cfgV n cv fv d, .int .i64 (i : Int)] w fun e w' => e = .returned (.int .i64 (rateAt cs i - kidR cs i)) ∧ Ext w w' := by
  have HC := Lib.hid hc
  have HRO := Lib.hid hr
  obtain ⟨CA, cc, rfl, hcc, hrc⟩ := hc
  have HR := Lib.hid hrc
  clear hr
  have HRI := Lib.hid (rateAt_is cs i hi)
  obtain ⟨bi, oi, hAi, hbi, hci⟩ := hrc i cs[i] (List.getElem?_eq_getElem hi)
  subst hAi
  have c2 : w.cell? ⟨bi, oi + i * 8 + 2, none⟩ = some (.int .i64 (rateAt cs i)) := by rw [HRI.out]; exact hci 2 _ rfl
  clear hci
  obtain ⟨q0, q1, q2, q3, q4⟩ := Box.new w n (.slice (some ⟨bi, oi, none⟩) cs.length cc) fv d 30
  clear hrc
  go_enter Tryd.func42, Tryd.ntmps42
  go_wp2_with fail
  refine (spec_cfKids_any n _ fv d i cs _ (HC.out.ext ((Ext.refl w).alloc _)) hi hcl).mono ?_
  rintro e w1 ⟨u1, rfl, O1, F1⟩
  have X1 := F1
  have HKL := Lib.hid (show kidR cs i = sumK cs (kidL cs i) (kidL cs i).length from rfl)
  have HKG := Lib.hid (kidL_get cs i)
  have hkl := kidL_len cs i
  obtain ⟨A1, k1, rfl, _, hr1⟩ := Own.rd O1 icell_len
  have HR1 := Lib.hid hr1
  clear O1 hr1
  clear c2 q0 q1 q2 q3 q4
  generalize kidL cs i = l at *
  go_wp2
  go_loopw [18, 5] (fun t s wr => ∃ k : Nat, k ≤ l.length ∧ t = .int .i64 (k : Int) ∧ s = .int .i64 (rateAt cs i - sumK cs l k) ∧ Ext w1 wr) (fun t _ _ => l.length - (intOf t).toNat)
  case atStart => exact ⟨0, Nat.zero_le _, rfl, by simp [sumK, HRI.out], Ext.refl _⟩
  case round =>
    obtain ⟨k, hk, rfl, rfl, hx⟩ := hrel
    by_cases hlt : k < l.length
    · obtain ⟨b1, o1, rfl, hb1, hcw⟩ := HR1.out k l[k] (List.getElem?_eq_getElem hlt)
      obtain ⟨j, hj, hjl⟩ := HKG.out k hlt
      have c0 : wr.cell? ⟨b1, o1 + k, none⟩ = some (.int .i64 (j : Int)) := by rw [Ext.cell hx hb1, ← hj]; simpa using hcw 0 _ rfl
      have hsk : sumK cs l (k + 1) = sumK cs l k + cs[j].rate := by
        rw [sumK, List.getD_eq_getElem?_getD, List.getElem?_eq_getElem hlt, Option.getD_some, hj]
        exact congrArg _ (rateAt_is cs j hjl)
      have hrt := HRO.out j
      rw [rateAt_is cs j hjl] at hrt
      obtain ⟨b, o, hAA, hb, hcell⟩ := HR.out j cs[j] (List.getElem?_eq_getElem hjl)
      simp only [Option.some.injEq, Addr.mk.injEq, and_true] at hAA
      obtain ⟨rfl, rfl⟩ := hAA
      generalize cs[j] = x at hcell hsk hrt
      have hxw := Ext.trans ((Ext.refl w).alloc _) (X1.trans hx)
      have c1 : wr.cell? ⟨bi, oi + j * 8 + 2, none⟩ = some (.int .i64 x.rate) := by rw [Ext.cell hxw hb]; exact hcell 2 _ rfl
      have HSK := Lib.hid hsk
      obtain ⟨h0, h1⟩ := hrt
      have h2 := (sumK_bd HRO.out l k).1
      have h3 : sumK cs l k ≤ 1048576000000000 := by have := (sumK_bd HRO.out l k).2; omega
      have h4 := (HRO.out i).1
      have h5 := (HRO.out i).2
      generalize rateAt cs i = ri at *
      obtain ⟨q0, q1, q2, q3, q4⟩ := (Box.new w n (.slice (some ⟨bi, oi, none⟩) cs.length cc) fv d 30).ext (X1.trans hx)
      clear hcw hcell hsk hj
      generalize sumK cs l k = S at *
      go_wp2
      go_roundw
      case rel => exact ⟨k + 1, by omega, by go_num, by rw [HSK.out]; first | done | go_num | (congr 1; omega), hx⟩
      case measure => simp [intOf]; omega
    · obtain rfl : k = l.length := by omega
      go_wp2
      go_ret
      exact ⟨by rw [HKL.out]; rfl, Ext.trans ((Ext.refl w).alloc _) (X1.trans hx)⟩
theorem ratesCountable1_any (x : Cls) (w : World) :
    Calls Tryd.prog 76 #[clsV x] w fun e w' => e = .returned (.bool (rateWild x)) ∧ Ext w w' := by
  by_cases h : x.rate < 0
  · go_enter Tryd.func76, Tryd.ntmps76
    go_wp2
    go_ret
    exact ⟨by simp [rateWild, h]; try omega, (Ext.refl _).alloc _⟩
  · go_enter Tryd.func76, Tryd.ntmps76
    go_wp2
    go_ret
    exact ⟨by simp [rateWild, h]; try omega, (Ext.refl _).alloc _⟩
theorem impl_ratesCountable_any (n : ByteArray) (cv fv : Value) (d : Int) (cs : List Cls) (w : World) (hc : RdC w cv cs) (hcl : cs.length ≤ 1048576) :
    Calls Tryd.prog 46 #[cfgV n cv fv d] w fun e w' => e = .returned (.bool (cntB cs)) ∧ Ext w w' := by
  have HC := Lib.hid hc
  clear hc
  have E0 := (Ext.refl w).alloc (.cells #[.string n, cv, fv, .int .i64 d] 30)
  go_enter Tryd.func46, Tryd.ntmps46
  go_wp2_with fail
  refine (impl_ratesCountable_1_contains rateWild _ cs _ (HC.out.ext E0) hcl (fun x w' hx => ratesCountable1_any x w')).mono ?_
  rintro e w1 ⟨rfl, F1⟩
  go_wp2
  go_ret
  exact ⟨rfl, E0.trans F1⟩
theorem spec_vaRates_any (n : ByteArray) (cv fv : Value) (d : Int) (cs : List Cls) (w : World) (hc : RdC w cv cs) (hcl : cs.length ≤ 1048576) :
    Calls Tryd.prog 40 #[cfgV n cv fv d] w fun e w' => e = .returned (.bool (cntB cs)) ∧ Ext w w' := by
  obtain ⟨CA, cc, rfl, hcc, hrc⟩ := hc
  have HR := Lib.hid hrc
  clear hrc
  have E0 := (Ext.refl w).alloc (.cells #[.string n, .slice CA cs.length cc, fv, .int .i64 d] 30)
  go_enter Tryd.func40, Tryd.ntmps40
  go_wp2
  go_loopw [8] (fun t wr => ∃ k : Nat, k ≤ cs.length ∧ t = .int .i64 (k : Int) ∧ Hid (idxC cs rateWild = fndN (fun k => clsAt cs k rateWild) k (cs.length - k)) ∧ Ext w wr) (fun t _ => cs.length - (intOf t).toNat)
  case atStart => exact ⟨0, Nat.zero_le _, rfl, rfl, E0⟩
  case round =>
    obtain ⟨k, hk, rfl, hq, hx⟩ := hrel
    have hxw := hx
    by_cases hlt : k < cs.length
    · obtain ⟨b, o, rfl, hb, hcell⟩ := HR.out k cs[k] (List.getElem?_eq_getElem hlt)
      have hst := fndN_step (fun k => clsAt cs k rateWild) k cs.length hlt
      simp only [clsAt_is cs k _ hlt] at hst
      generalize cs[k] = x at hcell hst
      have HST := Lib.hid hst
      have c0 : wr.cell? ⟨b, o + k * 8, none⟩ = some (.int .i64 x.id) := by rw [Ext.cell hxw hb]; exact hcell 0 _ rfl
      have c1 : wr.cell? ⟨b, o + k * 8 + 1, none⟩ = some (.int .i64 x.parent) := by rw [Ext.cell hxw hb]; exact hcell 1 _ rfl
      have c2 : wr.cell? ⟨b, o + k * 8 + 2, none⟩ = some (.int .i64 x.rate) := by rw [Ext.cell hxw hb]; exact hcell 2 _ rfl
      have c3 : wr.cell? ⟨b, o + k * 8 + 3, none⟩ = some (.int .i64 x.ceil) := by rw [Ext.cell hxw hb]; exact hcell 3 _ rfl
      have c4 : wr.cell? ⟨b, o + k * 8 + 4, none⟩ = some (.int .i64 x.burst) := by rw [Ext.cell hxw hb]; exact hcell 4 _ rfl
      have c5 : wr.cell? ⟨b, o + k * 8 + 5, none⟩ = some (.int .i64 x.cburst) := by rw [Ext.cell hxw hb]; exact hcell 5 _ rfl
      have c6 : wr.cell? ⟨b, o + k * 8 + 6, none⟩ = some (.int .i64 x.prio) := by rw [Ext.cell hxw hb]; exact hcell 6 _ rfl
      have c7 : wr.cell? ⟨b, o + k * 8 + 7, none⟩ = some (.int .i64 x.limit) := by rw [Ext.cell hxw hb]; exact hcell 7 _ rfl
      clear hcell hst
      have HW := Lib.hid (show rateWild x = !inR x.rate 0 1000000000 by simp only [rateWild, inR]; rw [Bool.eq_iff_iff]; simp; try omega)
      go_wp2_with fail
      refine (spec_l1In_any _ _ _ _).mono ?_
      rintro e w1 ⟨rfl, rfl⟩
      cases he : inR x.rate 0 1000000000
      · have HE := Lib.hid (show rateWild x = true by rw [HW.out, he]; rfl)
        go_wp2
        go_ret
        exact ⟨by have := hq.out; rw [HST.out, HE.out] at this; simp only [cntB]; rw [this]; rfl, hx.alloc _⟩
      · have HE := Lib.hid (show rateWild x = false by rw [HW.out, he]; rfl)
        go_wp2
        go_roundw
        case rel => exact ⟨k + 1, by omega, by go_num, by have := hq.out; rw [HST.out, HE.out] at this; exact this, hx.alloc _⟩
        case measure => simp [intOf]; omega
    · obtain rfl : k = cs.length := by omega
      go_wp2
      go_ret
      exact ⟨by have := hq.out; rw [Nat.sub_self] at this; simp only [cntB]; rw [this]; rfl, hx⟩
theorem impl_overfull_any (n : ByteArray) (cv fv : Value) (d : Int) (cs : List Cls) (w : World) (hc : RdC w cv cs) (hcl : cs.length ≤ 1048576) (hr : RatesOk cs) :
    Calls Tryd.prog 70 #[cfgV n cv fv d] w fun e w' => ∃ u, e = .returned u ∧ OwnI w' w.heap.size 3 u (pick (overP cs) cs.length) ∧ Ext w w' := by
  have HC := Lib.hid hc
  obtain ⟨CA, cc, rfl, hcc, hrc⟩ := hc
  have HR := Lib.hid hrc
  clear hrc
  have HRO := Lib.hid hr
  clear hr
  have E0 := (Ext.refl w).alloc (.cells #[.string n, .slice CA cs.length cc, fv, .int .i64 d] 30)
  go_enter Tryd.func70, Tryd.ntmps70
  have D0 := (show Ext (w.alloc (.cells #[.string n, .slice CA cs.length cc, fv, .int .i64 d] 30)) _ from Ext.refl _).alloc (.cells #[] 3)
  have HLT : w.heap.size + 1 ≤ (w.alloc (.cells #[.string n, .slice CA cs.length cc, fv, .int .i64 d] 30)).heap.size := by simp
  have HST := Lib.hid (show OwnI ((w.alloc (.cells #[.string n, .slice CA cs.length cc, fv, .int .i64 d] 30)).alloc (.cells #[] 3)) (w.heap.size + 1) 3 (.slice (some ⟨w.heap.size + 1, 0, none⟩) 0 0) [] by
    have := World.ownsRow_lit (base := w.heap.size + 1) (e := 3) (size := 1) (w.alloc (.cells #[.string n, .slice CA cs.length cc, fv, .int .i64 d] 30)) #[] 0 (by simp) (by unfold maxLen; omega) rfl
    unfold OwnI Own
    simpa using this)
  go_wp2
  go_loopw [10, 3] (fun t s wr => ∃ k : Nat, k ≤ cs.length ∧ t = .int .i64 (k : Int) ∧ OwnI wr (w.heap.size + 1) 3 s (pick (overP cs) k) ∧ Ext (w.alloc (.cells #[.string n, .slice CA cs.length cc, fv, .int .i64 d] 30)) wr) (fun t _ _ => cs.length - (intOf t).toNat)
  case atStart => exact ⟨0, Nat.zero_le _, rfl, HST.out, D0⟩
  case round =>
    obtain ⟨k, hk, rfl, hown, hx⟩ := hrel
    have HO := Lib.hid hown
    have hxw := Ext.trans ((Ext.refl w).alloc (.cells #[.string n, .slice CA cs.length cc, fv, .int .i64 d] 30)) hx
    have BX := Lib.hid ((Box.new w n (.slice CA cs.length cc) fv d 30).ext hx)
    clear hown
    by_cases hlt : k < cs.length
    · have HPK := Lib.hid (show pick (overP cs) (k + 1) = pick (overP cs) k ++ (if (overP cs) k then [(k : Int)] else []) from rfl)
      have HLN := Lib.hid (show (pick (overP cs) k).length ≤ 10000000 by have := pick_len (overP cs) k; omega)
      have hbp : (overP cs) k = decide (cs[k].rate < kidR cs k) := by rw [← rateAt_is cs k hlt]; rfl
      obtain ⟨b, o, hCA, hb, hcell⟩ := HR.out k cs[k] (List.getElem?_eq_getElem hlt)
      generalize cs[k] = x at hcell hbp
      subst hCA
      have c0 : wr.cell? ⟨b, o + k * 8, none⟩ = some (.int .i64 x.id) := by rw [Ext.cell hxw hb]; exact hcell 0 _ rfl
      have c1 : wr.cell? ⟨b, o + k * 8 + 1, none⟩ = some (.int .i64 x.parent) := by rw [Ext.cell hxw hb]; exact hcell 1 _ rfl
      have c2 : wr.cell? ⟨b, o + k * 8 + 2, none⟩ = some (.int .i64 x.rate) := by rw [Ext.cell hxw hb]; exact hcell 2 _ rfl
      have c3 : wr.cell? ⟨b, o + k * 8 + 3, none⟩ = some (.int .i64 x.ceil) := by rw [Ext.cell hxw hb]; exact hcell 3 _ rfl
      have c4 : wr.cell? ⟨b, o + k * 8 + 4, none⟩ = some (.int .i64 x.burst) := by rw [Ext.cell hxw hb]; exact hcell 4 _ rfl
      have c5 : wr.cell? ⟨b, o + k * 8 + 5, none⟩ = some (.int .i64 x.cburst) := by rw [Ext.cell hxw hb]; exact hcell 5 _ rfl
      have c6 : wr.cell? ⟨b, o + k * 8 + 6, none⟩ = some (.int .i64 x.prio) := by rw [Ext.cell hxw hb]; exact hcell 6 _ rfl
      have c7 : wr.cell? ⟨b, o + k * 8 + 7, none⟩ = some (.int .i64 x.limit) := by rw [Ext.cell hxw hb]; exact hcell 7 _ rfl
      have HBP := Lib.hid hbp
      clear hcell hbp
      obtain ⟨q0, q1, q2, q3, q4⟩ := BX.out
      go_wp2_with fail
      (go_wp2_with fail; refine wp_region_ext (by kernel_rfl) (by kernel_rfl) ?_; (repeat (first | go_big_quiet_step ((first | (go_at_call 48; exact calls_later (impl_childRates_any _ _ _ _ _ _ _ (HC.out.ext ((hxw.alloc _).trans (Later.ext _))) hlt (by omega) HRO.out)))) | quiet_step ((first | (go_at_call 48; exact calls_later (impl_childRates_any _ _ _ _ _ _ _ (HC.out.ext ((hxw.alloc _).trans (Later.ext _))) hlt (by omega) HRO.out)))))); refine wpQuiet_nil ?_; intro wq hbq; have hcq := Ext.cells hbq; have hzq := Ext.frozens hbq; have hsq := Ext.lts hbq)
      have F1 := hbq
      have D1 := (hx.alloc _).trans F1
      have G1 := ((Ext.refl wr).alloc _).trans F1
      by_cases hov : x.rate < kidR cs k
      · have HT := Lib.hid (show overP cs k = true by rw [HBP.out]; exact decide_eq_true hov)
        clear q0 q1 q2 q3 q4
        go_wp2_with (at_builtin; refine app_intB (by simp) (Own.ext HO.out G1) HLN.out D1 rfl rfl rfl rfl ?_; intro v2 w2 hown2 D2)
        have HO2 := Lib.hid hown2
        clear hown2
        go_wp2
        go_roundw
        case rel => exact ⟨k + 1, by omega, by go_num, by rw [HPK.out, HT.out]; exact HO2.out, D2⟩
        case measure => simp [intOf]; omega
      · have HF := Lib.hid (show overP cs k = false by rw [HBP.out]; exact decide_eq_false hov)
        clear q0 q1 q2 q3 q4
        go_wp2
        go_roundw
        case rel => exact ⟨k + 1, by omega, by go_num, by rw [HPK.out, HF.out]; simp only [Bool.false_eq_true, if_false, List.append_nil]; exact Own.ext HO.out G1, D1⟩
        case measure => simp [intOf]; omega
    · obtain rfl : k = cs.length := by omega
      go_wp2
      go_ret
      exact ⟨_, rfl, Own.mono HO.out (by omega), hxw⟩
end Go.Proofs.YtidahgoihgodnaaDoor
