/- Sums of rates above the bounds, ways up in a tree: contracts of both sides. Printed by wip/tools/gen_rai.py. -/
import Derived.Test.YtidahgoihgodnaaDoorRaiP
namespace Go.Proofs.YtidahgoihgodnaaDoor
open Go.RowKit
set_option maxRecDepth 20000
set_option maxHeartbeats 2000000
set_option linter.unusedSimpArgs false
set_option linter.unusedVariables false

/-- The sums of the rates of the children stay small. -/
def SumOk (cs : List Cls) (i : Nat) : Prop := (∀ k, k ≤ (kidL cs i).length → 0 ≤ sumK cs (kidL cs i) k ∧ sumK cs (kidL cs i) k ≤ 4586471424000000000) ∧ (∀ j, 0 ≤ rateAt cs j ∧ rateAt cs j ≤ 4586471424000000000)
theorem sumF_mono {f : Nat → Int} {l : List Int} (hb : ∀ k, k < l.length → 0 ≤ f (l.getD k 0).toNat) : ∀ t k, k + t ≤ l.length → sumF f l k ≤ sumF f l (k + t)
  | 0, k, _ => Int.le_refl _
  | t + 1, k, h => by
    have h1 := sumF_mono hb t k (by omega)
    have h2 := hb (k + t) (by omega)
    rw [← Nat.add_assoc, sumF]
    omega
theorem mkL_sumK {cs : List Cls} {f : Nat → Int} {P : Nat → Bool} (i : Nat) : ∀ k, k ≤ (kidL cs i).length → sumK (mkL cs f P) (kidL cs i) k = sumF f (kidL cs i) k := by
  intro k
  induction k with
  | zero => intro _; rfl
  | succ k ih =>
    intro hk
    obtain ⟨j, h1, h2, _⟩ := kid_at (show k < (kidL cs i).length by omega)
    rw [sumK, sumF, ih (by omega), h1, Int.toNat_natCast, mkL_rate h2]
theorem mkL_rate0 {cs : List Cls} {f : Nat → Int} {P : Nat → Bool} {i : Nat} (hi : ¬ i < cs.length) : rateAt (mkL cs f P) i = 0 := by
  unfold rateAt
  rw [mkL_get, List.getElem?_eq_none (by omega)]
  rfl
theorem sumOk_mk {cs : List Cls} (ht : TreeB cs = true) {f : Nat → Int} (hf : FGood cs f) (P : Nat → Bool) {i : Nat} (hi : i < cs.length) : SumOk (mkL cs f P) i := by
  have hb := (fgood_le ht hf hi).2.2
  refine ⟨fun k hk => ?_, fun j => ?_⟩
  · rw [(mkL_ST cs f P).kidL] at hk ⊢
    rw [mkL_sumK i k hk]
    have hp : ∀ k, k < (kidL cs i).length → 0 ≤ f ((kidL cs i).getD k 0).toNat := fun k hk => by
      obtain ⟨j, h1, hj, _⟩ := kid_at hk
      rw [h1, Int.toNat_natCast]
      exact (fgood_le ht hf hj).1
    have h1 := sumF_mono hp k 0 (by omega)
    have h2 := sumF_mono hp ((kidL cs i).length - k) k (by omega)
    rw [show k + ((kidL cs i).length - k) = (kidL cs i).length by omega] at h2
    rw [Nat.zero_add] at h1
    unfold chS at hb
    have h3 : sumF f (kidL cs i) 0 = 0 := rfl
    omega
  · by_cases hj : j < cs.length
    · rw [mkL_rate hj]
      have := fgood_le ht hf hj
      omega
    · rw [mkL_rate0 hj]
      omega
theorem impl_childRatesX_any (n : ByteArray) (cv fv : Value) (d : Int) (i : Nat) (cs : List Cls) (w : World) (hc : RdC w cv cs) (hi : i < cs.length) (hcl : cs.length ≤ 1048576) (hr : SumOk cs i) :
    Calls Tryd.prog 48 #[cfgV n cv fv d, .int .i64 (i : Int)] w fun e w' => e = .returned (.int .i64 (kidR cs i)) ∧ Ext w w' := by
  have HC := Lib.hid hc
  have HRO := Lib.hid hr
  obtain ⟨CA, cc, rfl, hcc, hrc⟩ := hc
  have HR := Lib.hid hrc
  clear hr

  clear hrc
  go_enter Tryd.func48, Tryd.ntmps48
  go_wp2_with fail
  refine (impl_childrenOf_any n _ fv d i cs _ (HC.out.ext ((Ext.refl w).alloc _)) hi hcl).mono ?_
  rintro e w1 ⟨u1, rfl, O1, F1⟩
  have X1 := F1
  have HKL := Lib.hid (show kidR cs i = sumK cs (kidL cs i) (kidL cs i).length from rfl)
  have HKG := Lib.hid (kidL_get cs i)
  have hkl := kidL_len cs i
  have HRS := Lib.hid HRO.out.1
  obtain ⟨A1, k1, rfl, _, hr1⟩ := Own.rd O1 icell_len
  have HR1 := Lib.hid hr1
  clear O1 hr1

  generalize kidL cs i = l at *
  go_wp2
  go_loopw [12, 5] (fun t s wr => ∃ k : Nat, k ≤ l.length ∧ t = .int .i64 (k : Int) ∧ s = .int .i64 (sumK cs l k) ∧ Ext w1 wr) (fun t _ _ => l.length - (intOf t).toNat)
  case atStart => exact ⟨0, Nat.zero_le _, rfl, by simp [sumK], Ext.refl _⟩
  case round =>
    obtain ⟨k, hk, rfl, rfl, hx⟩ := hrel
    by_cases hlt : k < l.length
    · obtain ⟨b1, o1, rfl, hb1, hcw⟩ := HR1.out k l[k] (List.getElem?_eq_getElem hlt)
      obtain ⟨j, hj, hjl⟩ := HKG.out k hlt
      have c0 : wr.cell? ⟨b1, o1 + k, none⟩ = some (.int .i64 (j : Int)) := by rw [Ext.cell hx hb1, ← hj]; simpa using hcw 0 _ rfl
      have hsk : sumK cs l (k + 1) = sumK cs l k + cs[j].rate := by
        rw [sumK, List.getD_eq_getElem?_getD, List.getElem?_eq_getElem hlt, Option.getD_some, hj]
        exact congrArg _ (rateAt_is cs j hjl)
      have hrt := HRO.out.2 j
      rw [rateAt_is cs j hjl] at hrt
      obtain ⟨b, o, hAA, hb, hcell⟩ := HR.out j cs[j] (List.getElem?_eq_getElem hjl)
      subst hAA
      generalize cs[j] = x at hcell hsk hrt
      have hxw := Ext.trans ((Ext.refl w).alloc _) (X1.trans hx)
      have c1 : wr.cell? ⟨b, o + j * 8 + 2, none⟩ = some (.int .i64 x.rate) := by rw [Ext.cell hxw hb]; exact hcell 2 _ rfl
      have HSK := Lib.hid hsk
      obtain ⟨h0, h1⟩ := hrt
      have h2 := (HRS.out k (by omega)).1
      have h3 := (HRS.out k (by omega)).2
      have h4 := (HRS.out (k + 1) (by omega)).2
      rw [hsk] at h4

      obtain ⟨q0, q1, q2, q3, q4⟩ := (Box.new w n (.slice (some ⟨b, o, none⟩) cs.length cc) fv d 30).ext (X1.trans hx)
      clear hcw hcell hsk hj
      generalize sumK cs l k = S at *
      go_wp2
      go_roundw
      case rel => exact ⟨k + 1, by omega, by go_num, by rw [HSK.out]; first | done | go_num | (congr 1; omega), hx⟩
      case measure => simp [intOf]; omega
    · obtain rfl : k = l.length := by omega
      go_wp2
      go_ret
      exact ⟨by rw [HKL.out]; rfl, Ext.trans ((Ext.refl w).alloc _) (X1.trans hx)⟩
theorem spec_cfSpareX_any (n : ByteArray) (cv fv : Value) (d : Int) (i : Nat) (cs : List Cls) (w : World) (hc : RdC w cv cs) (hi : i < cs.length) (hcl : cs.length ≤ 1048576) (hr : SumOk cs i) :
    Calls Tryd.prog 42 #[cfgV n cv fv d, .int .i64 (i : Int)] w fun e w' => e = .returned (.int .i64 (rateAt cs i - kidR cs i)) ∧ Ext w w' := by
  have HC := Lib.hid hc
  have HRO := Lib.hid hr
  obtain ⟨CA, cc, rfl, hcc, hrc⟩ := hc
  have HR := Lib.hid hrc
  clear hr
  have HRI := Lib.hid (rateAt_is cs i hi)
  obtain ⟨bi, oi, hAi, hbi, hci⟩ := hrc i cs[i] (List.getElem?_eq_getElem hi)
  subst hAi
  have c2 : w.cell? ⟨bi, oi + i * 8 + 2, none⟩ = some (.int .i64 (rateAt cs i)) := by rw [HRI.out]; exact hci 2 _ rfl
  clear hci
  obtain ⟨q0, q1, q2, q3, q4⟩ := Box.new w n (.slice (some ⟨bi, oi, none⟩) cs.length cc) fv d 30
  clear hrc
  go_enter Tryd.func42, Tryd.ntmps42
  go_wp2_with fail
  refine (spec_cfKids_any n _ fv d i cs _ (HC.out.ext ((Ext.refl w).alloc _)) hi hcl).mono ?_
  rintro e w1 ⟨u1, rfl, O1, F1⟩
  have X1 := F1
  have HKL := Lib.hid (show kidR cs i = sumK cs (kidL cs i) (kidL cs i).length from rfl)
  have HKG := Lib.hid (kidL_get cs i)
  have hkl := kidL_len cs i
  have HRS := Lib.hid HRO.out.1
  obtain ⟨A1, k1, rfl, _, hr1⟩ := Own.rd O1 icell_len
  have HR1 := Lib.hid hr1
  clear O1 hr1
  clear c2 q0 q1 q2 q3 q4
  generalize kidL cs i = l at *
  go_wp2
  go_loopw [18, 5] (fun t s wr => ∃ k : Nat, k ≤ l.length ∧ t = .int .i64 (k : Int) ∧ s = .int .i64 (rateAt cs i - sumK cs l k) ∧ Ext w1 wr) (fun t _ _ => l.length - (intOf t).toNat)
  case atStart => exact ⟨0, Nat.zero_le _, rfl, by simp [sumK, HRI.out], Ext.refl _⟩
  case round =>
    obtain ⟨k, hk, rfl, rfl, hx⟩ := hrel
    by_cases hlt : k < l.length
    · obtain ⟨b1, o1, rfl, hb1, hcw⟩ := HR1.out k l[k] (List.getElem?_eq_getElem hlt)
      obtain ⟨j, hj, hjl⟩ := HKG.out k hlt
      have c0 : wr.cell? ⟨b1, o1 + k, none⟩ = some (.int .i64 (j : Int)) := by rw [Ext.cell hx hb1, ← hj]; simpa using hcw 0 _ rfl
      have hsk : sumK cs l (k + 1) = sumK cs l k + cs[j].rate := by
        rw [sumK, List.getD_eq_getElem?_getD, List.getElem?_eq_getElem hlt, Option.getD_some, hj]
        exact congrArg _ (rateAt_is cs j hjl)
      have hrt := HRO.out.2 j
      rw [rateAt_is cs j hjl] at hrt
      obtain ⟨b, o, hAA, hb, hcell⟩ := HR.out j cs[j] (List.getElem?_eq_getElem hjl)
      simp only [Option.some.injEq, Addr.mk.injEq, and_true] at hAA
      obtain ⟨rfl, rfl⟩ := hAA
      generalize cs[j] = x at hcell hsk hrt
      have hxw := Ext.trans ((Ext.refl w).alloc _) (X1.trans hx)
      have c1 : wr.cell? ⟨bi, oi + j * 8 + 2, none⟩ = some (.int .i64 x.rate) := by rw [Ext.cell hxw hb]; exact hcell 2 _ rfl
      have HSK := Lib.hid hsk
      obtain ⟨h0, h1⟩ := hrt
      have h2 := (HRS.out k (by omega)).1
      have h3 := (HRS.out k (by omega)).2
      have h6 := (HRS.out (k + 1) (by omega)).2
      rw [hsk] at h6
      have h4 := (HRO.out.2 i).1
      have h5 := (HRO.out.2 i).2
      generalize rateAt cs i = ri at *
      obtain ⟨q0, q1, q2, q3, q4⟩ := (Box.new w n (.slice (some ⟨bi, oi, none⟩) cs.length cc) fv d 30).ext (X1.trans hx)
      clear hcw hcell hsk hj
      generalize sumK cs l k = S at *
      go_wp2
      go_roundw
      case rel => exact ⟨k + 1, by omega, by go_num, by rw [HSK.out]; first | done | go_num | (congr 1; omega), hx⟩
      case measure => simp [intOf]; omega
    · obtain rfl : k = l.length := by omega
      go_wp2
      go_ret
      exact ⟨by rw [HKL.out]; rfl, Ext.trans ((Ext.refl w).alloc _) (X1.trans hx)⟩
theorem spec_cfSpareE_any (n : ByteArray) (cv fv : Value) (d : Int) (i : Nat) (cs : List Cls) (w : World) (hc : RdC w cv cs) (hi : i < cs.length) (hcl : cs.length ≤ 1048576) :
    Calls Tryd.prog 42 #[cfgV n cv fv d, .int .i64 (i : Int)] w fun e w' => ∃ s : Int, e = .returned (.int .i64 s) ∧ Ext w w' := by
  have HC := Lib.hid hc
  obtain ⟨CA, cc, rfl, hcc, hrc⟩ := hc
  have HR := Lib.hid hrc
  have HRI := Lib.hid (rateAt_is cs i hi)
  obtain ⟨bi, oi, hAi, hbi, hci⟩ := hrc i cs[i] (List.getElem?_eq_getElem hi)
  subst hAi
  have c2 : w.cell? ⟨bi, oi + i * 8 + 2, none⟩ = some (.int .i64 (rateAt cs i)) := by rw [HRI.out]; exact hci 2 _ rfl
  clear hci
  obtain ⟨q0, q1, q2, q3, q4⟩ := Box.new w n (.slice (some ⟨bi, oi, none⟩) cs.length cc) fv d 30
  clear hrc
  go_enter Tryd.func42, Tryd.ntmps42
  go_wp2_with fail
  refine (spec_cfKids_any n _ fv d i cs _ (HC.out.ext ((Ext.refl w).alloc _)) hi hcl).mono ?_
  rintro e w1 ⟨u1, rfl, O1, F1⟩
  have X1 := F1
  have HKG := Lib.hid (kidL_get cs i)
  have hkl := kidL_len cs i
  obtain ⟨A1, k1, rfl, _, hr1⟩ := Own.rd O1 icell_len
  have HR1 := Lib.hid hr1
  clear O1 hr1
  clear c2 q0 q1 q2 q3 q4
  generalize kidL cs i = l at *
  go_wp2
  go_loopw [18, 5] (fun t s wr => ∃ k : Nat, k ≤ l.length ∧ t = .int .i64 (k : Int) ∧ (∃ s0 : Int, s = .int .i64 s0) ∧ Ext w1 wr) (fun t _ _ => l.length - (intOf t).toNat)
  case atStart => exact ⟨0, Nat.zero_le _, rfl, ⟨_, rfl⟩, Ext.refl _⟩
  case round =>
    obtain ⟨k, hk, rfl, ⟨S, rfl⟩, hx⟩ := hrel
    by_cases hlt : k < l.length
    · obtain ⟨b1, o1, rfl, hb1, hcw⟩ := HR1.out k l[k] (List.getElem?_eq_getElem hlt)
      obtain ⟨j, hj, hjl⟩ := HKG.out k hlt
      have c0 : wr.cell? ⟨b1, o1 + k, none⟩ = some (.int .i64 (j : Int)) := by rw [Ext.cell hx hb1, ← hj]; simpa using hcw 0 _ rfl
      obtain ⟨b, o, hAA, hb, hcell⟩ := HR.out j cs[j] (List.getElem?_eq_getElem hjl)
      simp only [Option.some.injEq, Addr.mk.injEq, and_true] at hAA
      obtain ⟨rfl, rfl⟩ := hAA
      generalize cs[j] = x at hcell
      have hxw := Ext.trans ((Ext.refl w).alloc _) (X1.trans hx)
      have c1 : wr.cell? ⟨bi, oi + j * 8 + 2, none⟩ = some (.int .i64 x.rate) := by rw [Ext.cell hxw hb]; exact hcell 2 _ rfl
      obtain ⟨q0, q1, q2, q3, q4⟩ := (Box.new w n (.slice (some ⟨bi, oi, none⟩) cs.length cc) fv d 30).ext (X1.trans hx)
      clear hcw hcell hj
      go_wp2
      go_roundw
      case rel => exact ⟨k + 1, by omega, by go_num, ⟨_, rfl⟩, hx⟩
      case measure => simp [intOf]; omega
    · obtain rfl : k = l.length := by omega
      go_wp2
      go_ret
      exact ⟨_, rfl, Ext.trans ((Ext.refl w).alloc _) (X1.trans hx)⟩
theorem impl_wayUpT_any (n : ByteArray) (cv fv : Value) (d : Int) (i : Nat) (cs : List Cls) (w : World) (hc : RdC w cv cs) (hi : i < cs.length) (hg : TreeB cs = true) :
    Calls Tryd.prog 47 #[cfgV n cv fv d, .int .i64 (i : Int)] w fun e w' => ∃ u, e = .returned u ∧ OwnI w' w.heap.size 3 u (wayL (upF cs) i (upN (upF cs) i)) ∧ Ext w w' := by
  have HC := Lib.hid hc
  obtain ⟨CA, cc, rfl, hcc, hrc⟩ := hc
  have HR := Lib.hid hrc
  clear hrc
  have hl := (tree_len hg).2
  have HNX := Lib.hid (tree_next hg)
  obtain ⟨hu9, hu0, hup, hue⟩ := upN_spec (upF cs) i
  have hu8 := (up_way hi).2 (tree_deep hg i hi)
  have HUP := Lib.hid hup
  have HUE := Lib.hid (hue (by omega))
  clear hup hue hg
  have D0 := (Ext.refl (w.alloc (.cells #[.string n, .slice CA cs.length cc, fv, .int .i64 d] 30))).alloc (.cells #[.int .i64 (i : Int)] 3)
  have HST := Lib.hid (show OwnI ((w.alloc (.cells #[.string n, .slice CA cs.length cc, fv, .int .i64 d] 30)).alloc (.cells #[.int .i64 (i : Int)] 3)) (w.heap.size + 1) 3 (.slice (some ⟨w.heap.size + 1, 0, none⟩) 1 1) [(i : Int)] by
    have := World.ownsRow_lit (base := w.heap.size + 1) (e := 3) (size := 1) (w.alloc (.cells #[.string n, .slice CA cs.length cc, fv, .int .i64 d] 30)) #[.int .i64 (i : Int)] 1 (by simp) (by unfold maxLen; omega) rfl
    unfold OwnI Own
    simpa [icell] using this)
  go_enter Tryd.func47, Tryd.ntmps47
  go_wp2
  go_loopw [1, 5] (fun t s wr => ∃ m : Nat, m < upN (upF cs) i ∧ t = .int .i64 (itU (upF cs) i m) ∧ Hid (OwnI wr (w.heap.size + 1) 3 s (wayL (upF cs) i (m + 1))) ∧ Ext (w.alloc (.cells #[.string n, .slice CA cs.length cc, fv, .int .i64 d] 30)) wr) (fun _ s _ => 10 - lenV s)
  case atStart => exact ⟨0, hu0, rfl, HST.out, D0⟩
  case round =>
    obtain ⟨m, hm, rfl, hq, hx⟩ := hrel
    have hxw := Ext.trans ((Ext.refl w).alloc (.cells #[.string n, .slice CA cs.length cc, fv, .int .i64 d] 30)) hx
    have HLS := Lib.hid (own_lenV hq.out icell_len)
    obtain ⟨u, hu⟩ := Int.eq_ofNat_of_zero_le (HUP.out m hm)
    have hul : u < cs.length := by have := itU_bd (upF_bd cs) hi m; omega
    have HU := Lib.hid hu
    have HNU := Lib.hid (HNX.out u hul)
    rw [hu]
    clear hu
    obtain ⟨b, o, hCA, hb, hcell⟩ := HR.out u cs[u] (List.getElem?_eq_getElem hul)
    have HPA := Lib.hid (parAt_is cs u hul)
    generalize cs[u] = x at hcell HPA
    subst hCA
    have c1 : wr.cell? ⟨b, o + u * 8 + 1, none⟩ = some (.int .i64 x.parent) := by rw [Ext.cell hxw hb]; exact hcell 1 _ rfl
    clear hcell
    have z0 : b < wr.heap.size := Ext.lts hxw _ hb
    obtain ⟨q0, q1, q2, q3, q4⟩ := (Box.new w n (.slice (some ⟨b, o, none⟩) cs.length cc) fv d 30).ext hx
    by_cases hp : x.parent = 0
    · have HE := Lib.hid (show upN (upF cs) i = m + 1 by
        have h1 := HNU.out.1 (by rw [HPA.out, hp])
        have h2 := itU_up HU.out
        rw [h1] at h2
        rcases Nat.lt_or_ge (m + 1) (upN (upF cs) i) with h3 | h3
        · have := HUP.out (m + 1) h3
          omega
        · omega)
      go_wp2
      go_ret
      exact ⟨_, rfl, by rw [HE.out]; exact Own.mono hq.out (by omega), hxw⟩
    · have hp' : (x.parent != 0) = true := by simp [hp]
      have HF := Lib.hid (show itU (upF cs) i (m + 1) = findI cs x.parent by rw [itU_up HU.out, HPA.out])
      have HM := Lib.hid (show m + 1 < upN (upF cs) i by
        have h1 := HNU.out.2 (by rw [HPA.out]; exact hp)
        rw [HPA.out, ← HF.out] at h1
        rcases Nat.lt_or_ge (m + 1) (upN (upF cs) i) with h3 | h3
        · exact h3
        · have h4 : upN (upF cs) i = m + 1 := by omega
          have h5 := HUE.out
          rw [h4] at h5
          omega)
      go_wp2_with fail
      (go_wp2_with fail; refine wp_region_ext (by kernel_rfl) (by kernel_rfl) ?_; (repeat (first | go_big_quiet_step ((first | (go_at_call 27; exact calls_later (impl_indexOf_any _ _ _ _ _ _ _ (HC.out.ext (hxw.trans (Later.ext _))) (by omega))))) | quiet_step ((first | (go_at_call 27; exact calls_later (impl_indexOf_any _ _ _ _ _ _ _ (HC.out.ext (hxw.trans (Later.ext _))) (by omega))))))); refine wpQuiet_nil ?_; intro wq hbq; have hcq := Ext.cells hbq; have hzq := Ext.frozens hbq; have hsq := Ext.lts hbq)
      clear q0 q1 q2 q3 q4 c1 hcq hzq hsq
      go_wp2_with (at_builtin; refine app_intB (by simp) (Own.ext hq.out hbq) (by rw [wayL_len]; omega) (hx.trans hbq) rfl rfl rfl rfl ?_; intro v2 w2 hown2 D2)
      have HO2 := Lib.hid hown2
      have HL2 := Lib.hid (own_lenV hown2 icell_len)
      clear hown2
      go_wp2
      go_roundw
      case rel => exact ⟨m + 1, HM.out, by rw [HF.out], by rw [wayL_succ, HF.out]; exact HO2.out, D2⟩
      case measure =>
        have h1 := HL2.out
        have h2 := HLS.out
        have h3 := HM.out
        rw [List.length_append, wayL_len, List.length_singleton] at h1
        rw [wayL_len] at h2
        rw [h1, h2]
        omega
end Go.Proofs.YtidahgoihgodnaaDoor
