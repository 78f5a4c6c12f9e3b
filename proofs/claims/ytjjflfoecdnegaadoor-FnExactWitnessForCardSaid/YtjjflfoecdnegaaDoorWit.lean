/- Witnesses of filters: contracts of both sides. Printed by wip/tools/gen_wit.py. -/
import Derived.Test.YtjjflfoecdnegaaDoorWitP
import Derived.Test.YtjjflfoecdnegaaDoorQry
namespace Go.Proofs.YtjjflfoecdnegaaDoor
open Go.RowKit
set_option maxRecDepth 20000
set_option maxHeartbeats 1000000
set_option linter.unusedSimpArgs false
set_option linter.unusedVariables false

theorem fndN_zero (p : Nat → Bool) (k : Nat) : fndN p k 0 = -1 := rfl
theorem impl_leastValue_any (fv : Value) (fs : List Flt) (i : Nat) (field : Int) (w : World) (hf : RdF w fv fs) (hi : i < fs.length) (hfl : fs.length ≤ 1048576) :
    Calls Tryd.prog 85 #[fv, .int .i64 (i : Int), .int .i64 field] w fun e w' => e = .returned (.int .i64 (leastV fs i field)) ∧ Ext w w' := by
  obtain ⟨FA, fc, rfl, hcc, hrf⟩ := hf
  obtain ⟨b, o, rfl, hb, hci⟩ := hrf i fs[i] (List.getElem?_eq_getElem hi)
  have HR := Lib.hid hrf
  have HXI := Lib.hid (fltI_is fs i hi)
  generalize fs[i] = xi at hci HXI
  have HCI := Lib.hid hci
  clear hrf hci
  go_enter Tryd.func85, Tryd.ntmps85
  go_wp2
  go_loopw [7] (fun t wr => ∃ v : Nat, v ≤ 65536 ∧ t = .int .i64 (v : Int) ∧ Hid (leastV fs i field = fndN (fineP fs i field) v (65536 - v)) ∧ Ext w wr) (fun t _ => 65536 - (intOf t).toNat)
  case atStart => exact ⟨0, Nat.zero_le _, rfl, rfl, Ext.refl _⟩
  case round =>
    obtain ⟨v, hv, rfl, hq, hx⟩ := hrel
    have HVL := Lib.hid hv
    clear hv
    by_cases hlt : (v : Int) < 65536
    · have hvl0 : v < 65536 := by omega
      have HST := Lib.hid (fndN_step (fineP fs i field) v 65536 hvl0)
      have HVS := Lib.hid (show v + 1 ≤ 65536 by omega)
      clear hvl0
      have hlt2 : (v : Int) ≤ 65535 := by omega
      have c1 : wr.cell? ⟨b, o + i * 5 + 1, none⟩ = some (.int .i64 xi.field) := by rw [Ext.cell hx hb]; exact HCI.out 1 _ rfl
      have c2 : wr.cell? ⟨b, o + i * 5 + 2, none⟩ = some (.int .i64 xi.mask) := by rw [Ext.cell hx hb]; exact HCI.out 2 _ rfl
      have c3 : wr.cell? ⟨b, o + i * 5 + 3, none⟩ = some (.int .i64 xi.value) := by rw [Ext.cell hx hb]; exact HCI.out 3 _ rfl
      have z0 : b < wr.heap.size := Ext.lts hx _ hb
      have HFZ := Lib.hid (flagB_zero fs i field v)
      have HFD := Lib.hid (show fitB field v xi = ((xi.field != field) || (bits .and .i64 v xi.mask == xi.value)) from rfl)
      cases hA : (xi.field != field)
      · have HF0 := Lib.hid (show flagB fs i field v 0 = (bits .and .i64 v xi.mask == xi.value) by rw [HFZ.out, HXI.out, HFD.out, hA]; rfl)
        go_wp2_with fail
        (go_wp2_with fail; refine wp_region_ext (by kernel_rfl) (by kernel_rfl) ?_; (repeat (first | go_big_quiet_step (fail) | quiet_step (fail))); refine wpQuiet_nil ?_; intro wq hbq; have hcq := Ext.cells hbq; have hzq := Ext.frozens hbq; have hsq := Ext.lts hbq)
        have hxq := hx.trans hbq
        clear c1 c2 c3 hcq hzq hsq
        go_wp2
        go_loopw [41, 8] (fun t s wi => ∃ k : Nat, k ≤ i ∧ t = .int .i64 (k : Int) ∧ s = .bool (flagB fs i field v k) ∧ Ext wq wi) (fun t _ _ => i - (intOf t).toNat)
        case atStart => exact ⟨0, Nat.zero_le _, rfl, by rw [HF0.out], Ext.refl _⟩
        case round =>
          obtain ⟨k, hk, rfl, rfl, hy⟩ := hrel
          have hyw := hxq.trans hy
          by_cases hki : k < i
          · have hkl : k < fs.length := by omega
            have HFS := Lib.hid (flagB_succ fs i field v k)
            obtain ⟨b', o', hAA, hb', hcell⟩ := HR.out k fs[k] (List.getElem?_eq_getElem hkl)
            simp only [Option.some.injEq, Addr.mk.injEq, and_true] at hAA
            obtain ⟨rfl, rfl⟩ := hAA
            have HYI := Lib.hid (show hitP fs field v k = hitB field v fs[k] by rw [hitP, fltI_is fs k hkl])
            generalize fs[k] = y at hcell HYI
            have HHB := Lib.hid (show hitB field v y = ((y.field == field) && (bits .and .i64 v y.mask == y.value)) from rfl)
            have d0 : wr.cell? ⟨b, o + k * 5, none⟩ = some (.int .i64 y.prio) := by rw [Ext.cell hyw hb]; exact hcell 0 _ rfl
            have d1 : wr.cell? ⟨b, o + k * 5 + 1, none⟩ = some (.int .i64 y.field) := by rw [Ext.cell hyw hb]; exact hcell 1 _ rfl
            have d2 : wr.cell? ⟨b, o + k * 5 + 2, none⟩ = some (.int .i64 y.mask) := by rw [Ext.cell hyw hb]; exact hcell 2 _ rfl
            have d3 : wr.cell? ⟨b, o + k * 5 + 3, none⟩ = some (.int .i64 y.value) := by rw [Ext.cell hyw hb]; exact hcell 3 _ rfl
            have d4 : wr.cell? ⟨b, o + k * 5 + 4, none⟩ = some (.int .i64 y.target) := by rw [Ext.cell hyw hb]; exact hcell 4 _ rfl
            clear hcell
            cases hA : (y.field == field)
            · have HFS2 := Lib.hid (show flagB fs i field v (k + 1) = flagB fs i field v k by rw [HFS.out, HYI.out, HHB.out, hA]; simp)
              go_wp2
              go_roundw
              case rel => exact ⟨k + 1, by omega, by go_num, by rw [HFS2.out], hy.alloc _⟩
              case measure => simp [intOf]; omega
            · cases hB : (bits .and .i64 v y.mask == y.value)
              · have HFS2 := Lib.hid (show flagB fs i field v (k + 1) = flagB fs i field v k by rw [HFS.out, HYI.out, HHB.out, hA, hB]; simp)
                go_wp2
                go_roundw
                case rel => exact ⟨k + 1, by omega, by go_num, by rw [HFS2.out], hy.alloc _⟩
                case measure => simp [intOf]; omega
              · have HFS2 := Lib.hid (show flagB fs i field v (k + 1) = false by rw [HFS.out, HYI.out, HHB.out, hA, hB]; simp)
                go_wp2
                go_roundw
                case rel => exact ⟨k + 1, by omega, by go_num, by rw [HFS2.out], hy.alloc _⟩
                case measure => simp [intOf]; omega
          · obtain rfl : k = i := by omega
            have HFI2 := Lib.hid (show fineP fs k field v = flagB fs k field v k from rfl)
            cases hf : flagB fs k field v k
            · have HFP := Lib.hid (show fineP fs k field v = false by rw [HFI2.out, hf])
              go_wp2
              go_roundw
              case rel => exact ⟨v + 1, HVS.out, by go_num, by have := hq.out; rw [HST.out, HFP.out] at this; exact this, hx.trans (hbq.trans hy)⟩
              case measure => simp [intOf]; omega
            · have HFP := Lib.hid (show fineP fs k field v = true by rw [HFI2.out, hf])
              go_wp2
              go_ret
              exact ⟨by have := hq.out; rw [HST.out, HFP.out] at this; rw [this]; rfl, hx.trans (hbq.trans hy)⟩
      · have HF0 := Lib.hid (show flagB fs i field v 0 = true by rw [HFZ.out, HXI.out, HFD.out, hA]; rfl)
        go_wp2_with fail
        (go_wp2_with fail; refine wp_region_ext (by kernel_rfl) (by kernel_rfl) ?_; (repeat (first | go_big_quiet_step (fail) | quiet_step (fail))); refine wpQuiet_nil ?_; intro wq hbq; have hcq := Ext.cells hbq; have hzq := Ext.frozens hbq; have hsq := Ext.lts hbq)
        have hxq := hx.trans hbq
        clear c1 c2 c3 hcq hzq hsq
        go_wp2
        go_loopw [41, 8] (fun t s wi => ∃ k : Nat, k ≤ i ∧ t = .int .i64 (k : Int) ∧ s = .bool (flagB fs i field v k) ∧ Ext wq wi) (fun t _ _ => i - (intOf t).toNat)
        case atStart => exact ⟨0, Nat.zero_le _, rfl, by rw [HF0.out], Ext.refl _⟩
        case round =>
          obtain ⟨k, hk, rfl, rfl, hy⟩ := hrel
          have hyw := hxq.trans hy
          by_cases hki : k < i
          · have hkl : k < fs.length := by omega
            have HFS := Lib.hid (flagB_succ fs i field v k)
            obtain ⟨b', o', hAA, hb', hcell⟩ := HR.out k fs[k] (List.getElem?_eq_getElem hkl)
            simp only [Option.some.injEq, Addr.mk.injEq, and_true] at hAA
            obtain ⟨rfl, rfl⟩ := hAA
            have HYI := Lib.hid (show hitP fs field v k = hitB field v fs[k] by rw [hitP, fltI_is fs k hkl])
            generalize fs[k] = y at hcell HYI
            have HHB := Lib.hid (show hitB field v y = ((y.field == field) && (bits .and .i64 v y.mask == y.value)) from rfl)
            have d0 : wr.cell? ⟨b, o + k * 5, none⟩ = some (.int .i64 y.prio) := by rw [Ext.cell hyw hb]; exact hcell 0 _ rfl
            have d1 : wr.cell? ⟨b, o + k * 5 + 1, none⟩ = some (.int .i64 y.field) := by rw [Ext.cell hyw hb]; exact hcell 1 _ rfl
            have d2 : wr.cell? ⟨b, o + k * 5 + 2, none⟩ = some (.int .i64 y.mask) := by rw [Ext.cell hyw hb]; exact hcell 2 _ rfl
            have d3 : wr.cell? ⟨b, o + k * 5 + 3, none⟩ = some (.int .i64 y.value) := by rw [Ext.cell hyw hb]; exact hcell 3 _ rfl
            have d4 : wr.cell? ⟨b, o + k * 5 + 4, none⟩ = some (.int .i64 y.target) := by rw [Ext.cell hyw hb]; exact hcell 4 _ rfl
            clear hcell
            cases hA : (y.field == field)
            · have HFS2 := Lib.hid (show flagB fs i field v (k + 1) = flagB fs i field v k by rw [HFS.out, HYI.out, HHB.out, hA]; simp)
              go_wp2
              go_roundw
              case rel => exact ⟨k + 1, by omega, by go_num, by rw [HFS2.out], hy.alloc _⟩
              case measure => simp [intOf]; omega
            · cases hB : (bits .and .i64 v y.mask == y.value)
              · have HFS2 := Lib.hid (show flagB fs i field v (k + 1) = flagB fs i field v k by rw [HFS.out, HYI.out, HHB.out, hA, hB]; simp)
                go_wp2
                go_roundw
                case rel => exact ⟨k + 1, by omega, by go_num, by rw [HFS2.out], hy.alloc _⟩
                case measure => simp [intOf]; omega
              · have HFS2 := Lib.hid (show flagB fs i field v (k + 1) = false by rw [HFS.out, HYI.out, HHB.out, hA, hB]; simp)
                go_wp2
                go_roundw
                case rel => exact ⟨k + 1, by omega, by go_num, by rw [HFS2.out], hy.alloc _⟩
                case measure => simp [intOf]; omega
          · obtain rfl : k = i := by omega
            have HFI2 := Lib.hid (show fineP fs k field v = flagB fs k field v k from rfl)
            cases hf : flagB fs k field v k
            · have HFP := Lib.hid (show fineP fs k field v = false by rw [HFI2.out, hf])
              go_wp2
              go_roundw
              case rel => exact ⟨v + 1, HVS.out, by go_num, by have := hq.out; rw [HST.out, HFP.out] at this; exact this, hx.trans (hbq.trans hy)⟩
              case measure => simp [intOf]; omega
            · have HFP := Lib.hid (show fineP fs k field v = true by rw [HFI2.out, hf])
              go_wp2
              go_ret
              exact ⟨by have := hq.out; rw [HST.out, HFP.out] at this; rw [this]; rfl, hx.trans (hbq.trans hy)⟩
    · have HVE := Lib.hid (show v = 65536 by have := HVL.out; omega)
      have hz0 : (65535 : Int) < (v : Int) := by omega
      clear hlt
      generalize (v : Int) = z at hz0 ⊢
      go_wp2
      go_ret
      exact ⟨by have := hq.out; rw [HVE.out, Nat.sub_self, fndN_zero] at this; rw [this]; rfl, hx⟩
def FR (w : World) (b o : Nat) (fs : List Flt) : Prop :=
  ∀ k x, fs[k]? = some x → ∃ b' o', some (⟨b, o, none⟩ : Addr) = some ⟨b', o', none⟩ ∧ b' < w.heap.size ∧ ∀ j u, (Flt.cells x)[j]? = some u → w.cell? ⟨b', o' + k * 5 + j, none⟩ = some u
theorem FR.ext {w w' : World} {b o : Nat} {fs : List Flt} (h : FR w b o fs) (hx : Ext w w') : FR w' b o fs := by
  intro k x hk
  obtain ⟨b', o', hA, hb, hcell⟩ := h k x hk
  exact ⟨b', o', hA, Ext.lts hx _ hb, fun j u hj => (Ext.cell hx hb).trans (hcell j u hj)⟩
theorem spec_fiLeastField_any (field : Int) (fs : List Flt) (i b o c : Nat) (w : World) (hi : i < fs.length) (hic : i ≤ c) (hfl : fs.length ≤ 1048576) (hb : b < w.heap.size)
    (hr : FR w b o fs) :
    Calls Tryd.prog 84 #[.int .i64 field, fltW (fltI fs i), .slice (some ⟨b, o, none⟩) i c] w fun e w' => e = .returned (.int .i64 (leastV fs i field)) ∧ Ext w w' := by
  have HR := Lib.hid hr
  clear hr
  generalize hxi : fltI fs i = xi
  have HXI := Lib.hid hxi
  clear hxi
  have E0 := (Ext.refl w).alloc (.cells #[.int .i64 xi.prio, .int .i64 xi.field, .int .i64 xi.mask, .int .i64 xi.value, .int .i64 xi.target] 69)
  go_enter Tryd.func84, Tryd.ntmps84
  go_wp2
  go_loopw [7] (fun t wr => ∃ v : Nat, v ≤ 65536 ∧ t = .int .i64 (v : Int) ∧ Hid (leastV fs i field = fndN (fineP fs i field) v (65536 - v)) ∧ Ext (w.alloc (.cells #[.int .i64 xi.prio, .int .i64 xi.field, .int .i64 xi.mask, .int .i64 xi.value, .int .i64 xi.target] 69)) wr) (fun t _ => 65536 - (intOf t).toNat)
  case atStart => exact ⟨0, Nat.zero_le _, rfl, rfl, Ext.refl _⟩
  case round =>
    obtain ⟨v, hv, rfl, hq, hx⟩ := hrel
    have hxq := E0.trans hx
    have HVL := Lib.hid hv
    clear hv
    by_cases hlt : (v : Int) < 65536
    · have hvl0 : v < 65536 := by omega
      have HST := Lib.hid (fndN_step (fineP fs i field) v 65536 hvl0)
      have HVS := Lib.hid (show v + 1 ≤ 65536 by omega)
      clear hvl0
      have hlt2 : (v : Int) ≤ 65535 := by omega
      have c1 : wr.cell? ⟨w.heap.size, 1, none⟩ = some (.int .i64 xi.field) := (Ext.cell hx (by simp)).trans (by simp)
      have c2 : wr.cell? ⟨w.heap.size, 2, none⟩ = some (.int .i64 xi.mask) := (Ext.cell hx (by simp)).trans (by simp)
      have c3 : wr.cell? ⟨w.heap.size, 3, none⟩ = some (.int .i64 xi.value) := (Ext.cell hx (by simp)).trans (by simp)
      have HFZ := Lib.hid (flagB_zero fs i field v)
      have HFD := Lib.hid (show fitB field v xi = ((xi.field != field) || (bits .and .i64 v xi.mask == xi.value)) from rfl)
      cases hA : (xi.field != field)
      · have HF0 := Lib.hid (show flagB fs i field v 0 = (bits .and .i64 v xi.mask == xi.value) by rw [HFZ.out, HXI.out, HFD.out, hA]; rfl)
        go_wp2
        go_loopw [30, 8] (fun t s wi => ∃ k : Nat, k ≤ i ∧ t = .int .i64 (k : Int) ∧ s = .bool (flagB fs i field v k) ∧ Ext wr wi) (fun t _ _ => i - (intOf t).toNat)
        case atStart => exact ⟨0, Nat.zero_le _, rfl, by rw [HF0.out], Ext.refl _⟩
        case round =>
          obtain ⟨k, hk, rfl, rfl, hy⟩ := hrel
          have hyw := hxq.trans hy
          by_cases hki : k < i
          · have hkl : k < fs.length := by omega
            have HFS := Lib.hid (flagB_succ fs i field v k)
            obtain ⟨b', o', hAA, hb', hcell⟩ := HR.out k fs[k] (List.getElem?_eq_getElem hkl)
            simp only [Option.some.injEq, Addr.mk.injEq, and_true] at hAA
            obtain ⟨rfl, rfl⟩ := hAA
            have HYI := Lib.hid (show hitP fs field v k = hitB field v fs[k] by rw [hitP, fltI_is fs k hkl])
            generalize fs[k] = y at hcell HYI
            have HHB := Lib.hid (show hitB field v y = ((y.field == field) && (bits .and .i64 v y.mask == y.value)) from rfl)
            have d0 : wr.cell? ⟨b, o + k * 5, none⟩ = some (.int .i64 y.prio) := by rw [Ext.cell hyw hb]; exact hcell 0 _ rfl
            have d1 : wr.cell? ⟨b, o + k * 5 + 1, none⟩ = some (.int .i64 y.field) := by rw [Ext.cell hyw hb]; exact hcell 1 _ rfl
            have d2 : wr.cell? ⟨b, o + k * 5 + 2, none⟩ = some (.int .i64 y.mask) := by rw [Ext.cell hyw hb]; exact hcell 2 _ rfl
            have d3 : wr.cell? ⟨b, o + k * 5 + 3, none⟩ = some (.int .i64 y.value) := by rw [Ext.cell hyw hb]; exact hcell 3 _ rfl
            have d4 : wr.cell? ⟨b, o + k * 5 + 4, none⟩ = some (.int .i64 y.target) := by rw [Ext.cell hyw hb]; exact hcell 4 _ rfl
            clear hcell
            cases hf0 : flagB fs i field v k
            · have HFS2 := Lib.hid (show flagB fs i field v (k + 1) = false by rw [HFS.out, hf0]; rfl)
              go_wp2
              go_roundw
              case rel => exact ⟨k + 1, by omega, by go_num, by rw [HFS2.out], hy.alloc _⟩
              case measure => simp [intOf]; omega
            · cases hA : (y.field == field)
              · have hA2 : (y.field != field) = true := by simp [bne, hA]
                have HFS2 := Lib.hid (show flagB fs i field v (k + 1) = true by rw [HFS.out, hf0, HYI.out, HHB.out, hA]; rfl)
                go_wp2
                go_roundw
                case rel => exact ⟨k + 1, by omega, by go_num, by rw [HFS2.out], hy.alloc _⟩
                case measure => simp [intOf]; omega
              · have hA2 : (y.field != field) = false := by simp [bne, hA]
                cases hB : (bits .and .i64 v y.mask == y.value)
                · have hB2 : (bits .and .i64 v y.mask != y.value) = true := by simp [bne, hB]
                  have HFS2 := Lib.hid (show flagB fs i field v (k + 1) = true by rw [HFS.out, hf0, HYI.out, HHB.out, hA, hB]; rfl)
                  go_wp2
                  go_roundw
                  case rel => exact ⟨k + 1, by omega, by go_num, by rw [HFS2.out], hy.alloc _⟩
                  case measure => simp [intOf]; omega
                · have hB2 : (bits .and .i64 v y.mask != y.value) = false := by simp [bne, hB]
                  have HFS2 := Lib.hid (show flagB fs i field v (k + 1) = false by rw [HFS.out, hf0, HYI.out, HHB.out, hA, hB]; rfl)
                  go_wp2
                  go_roundw
                  case rel => exact ⟨k + 1, by omega, by go_num, by rw [HFS2.out], hy.alloc _⟩
                  case measure => simp [intOf]; omega
          · obtain rfl : k = i := by omega
            have HFI2 := Lib.hid (show fineP fs k field v = flagB fs k field v k from rfl)
            cases hf : flagB fs k field v k
            · have HFP := Lib.hid (show fineP fs k field v = false by rw [HFI2.out, hf])
              go_wp2
              go_roundw
              case rel => exact ⟨v + 1, HVS.out, by go_num, by have := hq.out; rw [HST.out, HFP.out] at this; exact this, hx.trans ((Ext.refl _).trans hy)⟩
              case measure => simp [intOf]; omega
            · have HFP := Lib.hid (show fineP fs k field v = true by rw [HFI2.out, hf])
              go_wp2
              go_ret
              exact ⟨by have := hq.out; rw [HST.out, HFP.out] at this; rw [this]; rfl, E0.trans (hx.trans ((Ext.refl _).trans hy))⟩
      · have HF0 := Lib.hid (show flagB fs i field v 0 = true by rw [HFZ.out, HXI.out, HFD.out, hA]; rfl)
        go_wp2
        go_loopw [30, 8] (fun t s wi => ∃ k : Nat, k ≤ i ∧ t = .int .i64 (k : Int) ∧ s = .bool (flagB fs i field v k) ∧ Ext wr wi) (fun t _ _ => i - (intOf t).toNat)
        case atStart => exact ⟨0, Nat.zero_le _, rfl, by rw [HF0.out], Ext.refl _⟩
        case round =>
          obtain ⟨k, hk, rfl, rfl, hy⟩ := hrel
          have hyw := hxq.trans hy
          by_cases hki : k < i
          · have hkl : k < fs.length := by omega
            have HFS := Lib.hid (flagB_succ fs i field v k)
            obtain ⟨b', o', hAA, hb', hcell⟩ := HR.out k fs[k] (List.getElem?_eq_getElem hkl)
            simp only [Option.some.injEq, Addr.mk.injEq, and_true] at hAA
            obtain ⟨rfl, rfl⟩ := hAA
            have HYI := Lib.hid (show hitP fs field v k = hitB field v fs[k] by rw [hitP, fltI_is fs k hkl])
            generalize fs[k] = y at hcell HYI
            have HHB := Lib.hid (show hitB field v y = ((y.field == field) && (bits .and .i64 v y.mask == y.value)) from rfl)
            have d0 : wr.cell? ⟨b, o + k * 5, none⟩ = some (.int .i64 y.prio) := by rw [Ext.cell hyw hb]; exact hcell 0 _ rfl
            have d1 : wr.cell? ⟨b, o + k * 5 + 1, none⟩ = some (.int .i64 y.field) := by rw [Ext.cell hyw hb]; exact hcell 1 _ rfl
            have d2 : wr.cell? ⟨b, o + k * 5 + 2, none⟩ = some (.int .i64 y.mask) := by rw [Ext.cell hyw hb]; exact hcell 2 _ rfl
            have d3 : wr.cell? ⟨b, o + k * 5 + 3, none⟩ = some (.int .i64 y.value) := by rw [Ext.cell hyw hb]; exact hcell 3 _ rfl
            have d4 : wr.cell? ⟨b, o + k * 5 + 4, none⟩ = some (.int .i64 y.target) := by rw [Ext.cell hyw hb]; exact hcell 4 _ rfl
            clear hcell
            cases hf0 : flagB fs i field v k
            · have HFS2 := Lib.hid (show flagB fs i field v (k + 1) = false by rw [HFS.out, hf0]; rfl)
              go_wp2
              go_roundw
              case rel => exact ⟨k + 1, by omega, by go_num, by rw [HFS2.out], hy.alloc _⟩
              case measure => simp [intOf]; omega
            · cases hA : (y.field == field)
              · have hA2 : (y.field != field) = true := by simp [bne, hA]
                have HFS2 := Lib.hid (show flagB fs i field v (k + 1) = true by rw [HFS.out, hf0, HYI.out, HHB.out, hA]; rfl)
                go_wp2
                go_roundw
                case rel => exact ⟨k + 1, by omega, by go_num, by rw [HFS2.out], hy.alloc _⟩
                case measure => simp [intOf]; omega
              · have hA2 : (y.field != field) = false := by simp [bne, hA]
                cases hB : (bits .and .i64 v y.mask == y.value)
                · have hB2 : (bits .and .i64 v y.mask != y.value) = true := by simp [bne, hB]
                  have HFS2 := Lib.hid (show flagB fs i field v (k + 1) = true by rw [HFS.out, hf0, HYI.out, HHB.out, hA, hB]; rfl)
                  go_wp2
                  go_roundw
                  case rel => exact ⟨k + 1, by omega, by go_num, by rw [HFS2.out], hy.alloc _⟩
                  case measure => simp [intOf]; omega
                · have hB2 : (bits .and .i64 v y.mask != y.value) = false := by simp [bne, hB]
                  have HFS2 := Lib.hid (show flagB fs i field v (k + 1) = false by rw [HFS.out, hf0, HYI.out, HHB.out, hA, hB]; rfl)
                  go_wp2
                  go_roundw
                  case rel => exact ⟨k + 1, by omega, by go_num, by rw [HFS2.out], hy.alloc _⟩
                  case measure => simp [intOf]; omega
          · obtain rfl : k = i := by omega
            have HFI2 := Lib.hid (show fineP fs k field v = flagB fs k field v k from rfl)
            cases hf : flagB fs k field v k
            · have HFP := Lib.hid (show fineP fs k field v = false by rw [HFI2.out, hf])
              go_wp2
              go_roundw
              case rel => exact ⟨v + 1, HVS.out, by go_num, by have := hq.out; rw [HST.out, HFP.out] at this; exact this, hx.trans ((Ext.refl _).trans hy)⟩
              case measure => simp [intOf]; omega
            · have HFP := Lib.hid (show fineP fs k field v = true by rw [HFI2.out, hf])
              go_wp2
              go_ret
              exact ⟨by have := hq.out; rw [HST.out, HFP.out] at this; rw [this]; rfl, E0.trans (hx.trans ((Ext.refl _).trans hy))⟩
    · have HVE := Lib.hid (show v = 65536 by have := HVL.out; omega)
      have hz0 : (65535 : Int) < (v : Int) := by omega
      clear hlt
      generalize (v : Int) = z at hz0 ⊢
      go_wp2
      go_ret
      exact ⟨by have := hq.out; rw [HVE.out, Nat.sub_self, fndN_zero] at this; rw [this]; rfl, E0.trans hx⟩
/-- Four numbers in block g, which may be written. -/
def W4 (w : World) (g : Nat) (a0 a1 a2 a3 : Int) : Prop :=
  (w.cell? ⟨g, 0, none⟩ = some (.int .i64 a0) ∧ w.cell? ⟨g, 1, none⟩ = some (.int .i64 a1) ∧ w.cell? ⟨g, 2, none⟩ = some (.int .i64 a2) ∧ w.cell? ⟨g, 3, none⟩ = some (.int .i64 a3)) ∧
  (w.frozen? ⟨g, 0, none⟩ = false ∧ w.frozen? ⟨g, 1, none⟩ = false ∧ w.frozen? ⟨g, 2, none⟩ = false ∧ w.frozen? ⟨g, 3, none⟩ = false) ∧ g < w.heap.size
theorem W4.ext {w w' : World} {g : Nat} {a0 a1 a2 a3 : Int} (h : W4 w g a0 a1 a2 a3) (hx : Ext w w') : W4 w' g a0 a1 a2 a3 := by
  obtain ⟨⟨h0, h1, h2, h3⟩, ⟨f0, f1, f2, f3⟩, hg⟩ := h
  exact ⟨⟨(Ext.cell hx hg).trans h0, (Ext.cell hx hg).trans h1, (Ext.cell hx hg).trans h2, (Ext.cell hx hg).trans h3⟩, ⟨(Ext.frozen hx hg).trans f0, (Ext.frozen hx hg).trans f1, (Ext.frozen hx hg).trans f2, (Ext.frozen hx hg).trans f3⟩, Ext.lts hx _ hg⟩
theorem W4.blk {w : World} {g : Nat} {T : TypeId} {a0 a1 a2 a3 : Int} (h : Blk w g T #[.int .i64 a0, .int .i64 a1, .int .i64 a2, .int .i64 a3]) : W4 w g a0 a1 a2 a3 := by
  have hl := h.lt
  unfold Blk at h
  exact ⟨⟨by simp [World.cell?, h], by simp [World.cell?, h], by simp [World.cell?, h], by simp [World.cell?, h]⟩, ⟨by simp [World.frozen?, h], by simp [World.frozen?, h], by simp [World.frozen?, h], by simp [World.frozen?, h]⟩, hl⟩
theorem Blk.other {w : World} {g g' : Nat} {t : TypeId} {cs : Array Value} (h : Blk w g t cs) (hne : g' ≠ g) (i : Nat) (u : Value) : Blk (w.setCell ⟨g', i, none⟩ u) g t cs := by
  unfold Blk at h ⊢
  rw [Below.heap_setCell _ _ _ _ (fun e => hne e.symm)]
  exact h
def witAt (fs : List Flt) (i : Nat) (k : Nat) (a0 a1 a2 a3 : Int) : Prop :=
  (0 < k → a0 = leastV fs i 0 ∧ 0 ≤ a0) ∧ (1 < k → a1 = leastV fs i 1 ∧ 0 ≤ a1) ∧ (2 < k → a2 = leastV fs i 2 ∧ 0 ≤ a2) ∧ (3 < k → a3 = leastV fs i 3 ∧ 0 ≤ a3)
theorem witAt_end {fs : List Flt} {i : Nat} {a0 a1 a2 a3 : Int} (h : witAt fs i 4 a0 a1 a2 a3) : witOk fs i = true ∧ a0 = leastV fs i 0 ∧ a1 = leastV fs i 1 ∧ a2 = leastV fs i 2 ∧ a3 = leastV fs i 3 := by
  obtain ⟨h0, h1, h2, h3⟩ := h
  obtain ⟨rfl, p0⟩ := h0 (by omega)
  obtain ⟨rfl, p1⟩ := h1 (by omega)
  obtain ⟨rfl, p2⟩ := h2 (by omega)
  obtain ⟨rfl, p3⟩ := h3 (by omega)
  simp [witOk, p0, p1, p2, p3]
theorem wit_no {fs : List Flt} {i : Nat} (k : Nat) (hk : k < 4) (h : leastV fs i (k : Int) < 0) : witOk fs i = false := by
  have : ¬ 0 ≤ leastV fs i (k : Int) := by omega
  rcases (by omega : k = 0 ∨ k = 1 ∨ k = 2 ∨ k = 3) with rfl | rfl | rfl | rfl <;> (simp at h; simp [witOk]; omega)
def WitAns (fs : List Flt) (i : Nat) (w : World) (e : Ending) (w' : World) : Prop :=
  ∃ a0 a1 a2 a3 : Int, e = .returned (.tuple #[.agg #[.int .i64 a0, .int .i64 a1, .int .i64 a2, .int .i64 a3], .bool (witOk fs i)]) ∧ (witOk fs i = true → a0 = leastV fs i 0 ∧ a1 = leastV fs i 1 ∧ a2 = leastV fs i 2 ∧ a3 = leastV fs i 3) ∧ Ext w w'
theorem impl_witness_any (fv : Value) (fs : List Flt) (i : Nat) (w : World) (hf : RdF w fv fs) (hi : i < fs.length) (hfl : fs.length ≤ 1048576) :
    Calls Tryd.prog 53 #[fv, .int .i64 (i : Int)] w (WitAns fs i w) := by
  have HF := Lib.hid hf
  clear hf
  have D0 := ((Ext.refl w).alloc (.cells #[.int .i64 0, .int .i64 0, .int .i64 0, .int .i64 0] 61)).alloc (.cells #[.int .i64 0, .int .i64 0, .int .i64 0, .int .i64 0] 61)
  have BA := Lib.hid ((Blk.new w 61 #[.int .i64 0, .int .i64 0, .int .i64 0, .int .i64 0]).ext ((Ext.refl _).alloc (.cells #[.int .i64 0, .int .i64 0, .int .i64 0, .int .i64 0] 61)))
  have BB := Lib.hid (show Blk ((w.alloc (.cells #[.int .i64 0, .int .i64 0, .int .i64 0, .int .i64 0] 61)).alloc (.cells #[.int .i64 0, .int .i64 0, .int .i64 0, .int .i64 0] 61)) (w.heap.size + 1) 61 #[.int .i64 0, .int .i64 0, .int .i64 0, .int .i64 0] by
    have := Blk.new (w.alloc (.cells #[.int .i64 0, .int .i64 0, .int .i64 0, .int .i64 0] 61)) 61 #[.int .i64 0, .int .i64 0, .int .i64 0, .int .i64 0]
    simpa using this)
  go_enter Tryd.func53, Tryd.ntmps53
  go_wp2
  go_loopw [9] (fun t wr => ∃ (k : Nat) (a0 a1 a2 a3 : Int), k ≤ 4 ∧ t = .int .i64 (k : Int) ∧ Hid (witAt fs i k a0 a1 a2 a3) ∧ Hid (Blk wr w.heap.size 61 #[.int .i64 0, .int .i64 0, .int .i64 0, .int .i64 0]) ∧ Hid (Blk wr (w.heap.size + 1) 61 #[.int .i64 a0, .int .i64 a1, .int .i64 a2, .int .i64 a3]) ∧ Ext w wr) (fun t _ => 4 - (intOf t).toNat)
  case atStart => exact ⟨0, 0, 0, 0, 0, by omega, rfl, ⟨fun h => absurd h (by omega), fun h => absurd h (by omega), fun h => absurd h (by omega), fun h => absurd h (by omega)⟩, (by first | exact BA.out | simpa using BA.out), (by first | exact BB.out | simpa using BB.out), by (repeat (first | (with_reducible exact Ext.refl _) | (with_reducible assumption) | (with_reducible apply Ext.alloc) | (with_reducible apply Ext.drew) | (with_reducible apply Ext.drewN) | ((with_reducible refine Ext.setCell ?_ ?_ _); rotate_left; (focus (first | (simp; done) | (simp; omega) | omega))) | (with_reducible refine Ext.trans ?_ (by assumption))))⟩
  case round =>
    obtain ⟨k, a0, a1, a2, a3, hk, rfl, hwa, hA, hB, hx⟩ := hrel
    have hzs : w.heap.size < wr.heap.size := hA.out.lt
    by_cases hlt : k < 4
    · rcases (by omega : k = 0 ∨ k = 1 ∨ k = 2 ∨ k = 3) with rfl | rfl | rfl | rfl
      · go_wp2_with fail
        refine (impl_leastValue_any fv fs i 0 _ (HF.out.ext hx) hi hfl).mono ?_
        rintro e w1 ⟨rfl, F1⟩
        have E1 := hx.trans F1
        have A1 := Lib.hid (hA.out.ext F1)
        have B1 := Lib.hid (hB.out.ext F1)
        obtain ⟨⟨c0, c1, c2, c3⟩, ⟨f0, f1, f2, f3⟩, hg⟩ := W4.blk B1.out
        obtain ⟨⟨p0, p1, p2, p3⟩, ⟨g0, g1, g2, g3⟩, hg'⟩ := W4.blk A1.out
        by_cases hneg : leastV fs i 0 < 0
        · have HN := Lib.hid (wit_no (fs := fs) (i := i) 0 (by omega) hneg)
          have EX := Lib.hid E1
          clear E1 F1 hx
          go_wp2
          refine bodyPost_ret (v := .tuple #[.agg #[.int .i64 (leastV fs i 0), .int .i64 a1, .int .i64 a2, .int .i64 a3], .bool false]) (by simp [results, Tryd.results53, go_sem, *]) rfl ⟨_, _, _, _, by rw [HN.out], fun h => absurd h (by rw [HN.out]; simp), ?_⟩
          have hx := EX.out
          (repeat (first | (with_reducible exact Ext.refl _) | (with_reducible assumption) | (with_reducible apply Ext.alloc) | (with_reducible apply Ext.drew) | (with_reducible apply Ext.drewN) | ((with_reducible refine Ext.setCell ?_ ?_ _); rotate_left; (focus (first | (simp; done) | (simp; omega) | omega))) | (with_reducible refine Ext.trans ?_ (by assumption))))
        · have HW := Lib.hid (show witAt fs i 1 (leastV fs i 0) a1 a2 a3 from ⟨fun _ => ⟨rfl, by omega⟩, fun h => absurd h (by omega), fun h => absurd h (by omega), fun h => absurd h (by omega)⟩)
          go_wp2
          go_roundw
          case rel => exact ⟨1, leastV fs i 0, a1, a2, a3, by omega, by go_num, HW.out, A1.out.other (by omega) _ _, Lib.hid (by have := B1.out.set_ 0 (.int .i64 (leastV fs i 0)); simpa using this), by (repeat (first | (with_reducible exact Ext.refl _) | (with_reducible assumption) | (with_reducible apply Ext.alloc) | (with_reducible apply Ext.drew) | (with_reducible apply Ext.drewN) | ((with_reducible refine Ext.setCell ?_ ?_ _); rotate_left; (focus (first | (simp; done) | (simp; omega) | omega))) | (with_reducible refine Ext.trans ?_ (by assumption))))⟩
          case measure => simp [intOf]
      · go_wp2_with fail
        refine (impl_leastValue_any fv fs i 1 _ (HF.out.ext hx) hi hfl).mono ?_
        rintro e w1 ⟨rfl, F1⟩
        have E1 := hx.trans F1
        have A1 := Lib.hid (hA.out.ext F1)
        have B1 := Lib.hid (hB.out.ext F1)
        obtain ⟨⟨c0, c1, c2, c3⟩, ⟨f0, f1, f2, f3⟩, hg⟩ := W4.blk B1.out
        obtain ⟨⟨p0, p1, p2, p3⟩, ⟨g0, g1, g2, g3⟩, hg'⟩ := W4.blk A1.out
        by_cases hneg : leastV fs i 1 < 0
        · have HN := Lib.hid (wit_no (fs := fs) (i := i) 1 (by omega) hneg)
          have EX := Lib.hid E1
          clear E1 F1 hx
          go_wp2
          refine bodyPost_ret (v := .tuple #[.agg #[.int .i64 a0, .int .i64 (leastV fs i 1), .int .i64 a2, .int .i64 a3], .bool false]) (by simp [results, Tryd.results53, go_sem, *]) rfl ⟨_, _, _, _, by rw [HN.out], fun h => absurd h (by rw [HN.out]; simp), ?_⟩
          have hx := EX.out
          (repeat (first | (with_reducible exact Ext.refl _) | (with_reducible assumption) | (with_reducible apply Ext.alloc) | (with_reducible apply Ext.drew) | (with_reducible apply Ext.drewN) | ((with_reducible refine Ext.setCell ?_ ?_ _); rotate_left; (focus (first | (simp; done) | (simp; omega) | omega))) | (with_reducible refine Ext.trans ?_ (by assumption))))
        · have HW := Lib.hid (show witAt fs i 2 a0 (leastV fs i 1) a2 a3 from ⟨fun _ => hwa.out.1 (by omega), fun _ => ⟨rfl, by omega⟩, fun h => absurd h (by omega), fun h => absurd h (by omega)⟩)
          go_wp2
          go_roundw
          case rel => exact ⟨2, a0, leastV fs i 1, a2, a3, by omega, by go_num, HW.out, A1.out.other (by omega) _ _, Lib.hid (by have := B1.out.set_ 1 (.int .i64 (leastV fs i 1)); simpa using this), by (repeat (first | (with_reducible exact Ext.refl _) | (with_reducible assumption) | (with_reducible apply Ext.alloc) | (with_reducible apply Ext.drew) | (with_reducible apply Ext.drewN) | ((with_reducible refine Ext.setCell ?_ ?_ _); rotate_left; (focus (first | (simp; done) | (simp; omega) | omega))) | (with_reducible refine Ext.trans ?_ (by assumption))))⟩
          case measure => simp [intOf]
      · go_wp2_with fail
        refine (impl_leastValue_any fv fs i 2 _ (HF.out.ext hx) hi hfl).mono ?_
        rintro e w1 ⟨rfl, F1⟩
        have E1 := hx.trans F1
        have A1 := Lib.hid (hA.out.ext F1)
        have B1 := Lib.hid (hB.out.ext F1)
        obtain ⟨⟨c0, c1, c2, c3⟩, ⟨f0, f1, f2, f3⟩, hg⟩ := W4.blk B1.out
        obtain ⟨⟨p0, p1, p2, p3⟩, ⟨g0, g1, g2, g3⟩, hg'⟩ := W4.blk A1.out
        by_cases hneg : leastV fs i 2 < 0
        · have HN := Lib.hid (wit_no (fs := fs) (i := i) 2 (by omega) hneg)
          have EX := Lib.hid E1
          clear E1 F1 hx
          go_wp2
          refine bodyPost_ret (v := .tuple #[.agg #[.int .i64 a0, .int .i64 a1, .int .i64 (leastV fs i 2), .int .i64 a3], .bool false]) (by simp [results, Tryd.results53, go_sem, *]) rfl ⟨_, _, _, _, by rw [HN.out], fun h => absurd h (by rw [HN.out]; simp), ?_⟩
          have hx := EX.out
          (repeat (first | (with_reducible exact Ext.refl _) | (with_reducible assumption) | (with_reducible apply Ext.alloc) | (with_reducible apply Ext.drew) | (with_reducible apply Ext.drewN) | ((with_reducible refine Ext.setCell ?_ ?_ _); rotate_left; (focus (first | (simp; done) | (simp; omega) | omega))) | (with_reducible refine Ext.trans ?_ (by assumption))))
        · have HW := Lib.hid (show witAt fs i 3 a0 a1 (leastV fs i 2) a3 from ⟨fun _ => hwa.out.1 (by omega), fun _ => hwa.out.2.1 (by omega), fun _ => ⟨rfl, by omega⟩, fun h => absurd h (by omega)⟩)
          go_wp2
          go_roundw
          case rel => exact ⟨3, a0, a1, leastV fs i 2, a3, by omega, by go_num, HW.out, A1.out.other (by omega) _ _, Lib.hid (by have := B1.out.set_ 2 (.int .i64 (leastV fs i 2)); simpa using this), by (repeat (first | (with_reducible exact Ext.refl _) | (with_reducible assumption) | (with_reducible apply Ext.alloc) | (with_reducible apply Ext.drew) | (with_reducible apply Ext.drewN) | ((with_reducible refine Ext.setCell ?_ ?_ _); rotate_left; (focus (first | (simp; done) | (simp; omega) | omega))) | (with_reducible refine Ext.trans ?_ (by assumption))))⟩
          case measure => simp [intOf]
      · go_wp2_with fail
        refine (impl_leastValue_any fv fs i 3 _ (HF.out.ext hx) hi hfl).mono ?_
        rintro e w1 ⟨rfl, F1⟩
        have E1 := hx.trans F1
        have A1 := Lib.hid (hA.out.ext F1)
        have B1 := Lib.hid (hB.out.ext F1)
        obtain ⟨⟨c0, c1, c2, c3⟩, ⟨f0, f1, f2, f3⟩, hg⟩ := W4.blk B1.out
        obtain ⟨⟨p0, p1, p2, p3⟩, ⟨g0, g1, g2, g3⟩, hg'⟩ := W4.blk A1.out
        by_cases hneg : leastV fs i 3 < 0
        · have HN := Lib.hid (wit_no (fs := fs) (i := i) 3 (by omega) hneg)
          have EX := Lib.hid E1
          clear E1 F1 hx
          go_wp2
          refine bodyPost_ret (v := .tuple #[.agg #[.int .i64 a0, .int .i64 a1, .int .i64 a2, .int .i64 (leastV fs i 3)], .bool false]) (by simp [results, Tryd.results53, go_sem, *]) rfl ⟨_, _, _, _, by rw [HN.out], fun h => absurd h (by rw [HN.out]; simp), ?_⟩
          have hx := EX.out
          (repeat (first | (with_reducible exact Ext.refl _) | (with_reducible assumption) | (with_reducible apply Ext.alloc) | (with_reducible apply Ext.drew) | (with_reducible apply Ext.drewN) | ((with_reducible refine Ext.setCell ?_ ?_ _); rotate_left; (focus (first | (simp; done) | (simp; omega) | omega))) | (with_reducible refine Ext.trans ?_ (by assumption))))
        · have HW := Lib.hid (show witAt fs i 4 a0 a1 a2 (leastV fs i 3) from ⟨fun _ => hwa.out.1 (by omega), fun _ => hwa.out.2.1 (by omega), fun _ => hwa.out.2.2.1 (by omega), fun _ => ⟨rfl, by omega⟩⟩)
          go_wp2
          go_roundw
          case rel => exact ⟨4, a0, a1, a2, leastV fs i 3, by omega, by go_num, HW.out, A1.out.other (by omega) _ _, Lib.hid (by have := B1.out.set_ 3 (.int .i64 (leastV fs i 3)); simpa using this), by (repeat (first | (with_reducible exact Ext.refl _) | (with_reducible assumption) | (with_reducible apply Ext.alloc) | (with_reducible apply Ext.drew) | (with_reducible apply Ext.drewN) | ((with_reducible refine Ext.setCell ?_ ?_ _); rotate_left; (focus (first | (simp; done) | (simp; omega) | omega))) | (with_reducible refine Ext.trans ?_ (by assumption))))⟩
          case measure => simp [intOf]
    · obtain rfl : k = 4 := by omega
      have HE := Lib.hid (witAt_end hwa.out)
      obtain ⟨⟨c0, c1, c2, c3⟩, ⟨f0, f1, f2, f3⟩, hg⟩ := W4.blk hB.out
      obtain ⟨⟨p0, p1, p2, p3⟩, ⟨g0, g1, g2, g3⟩, hg'⟩ := W4.blk hA.out
      have EX := Lib.hid hx
      clear hx
      go_wp2
      refine bodyPost_ret (v := .tuple #[.agg #[.int .i64 a0, .int .i64 a1, .int .i64 a2, .int .i64 a3], .bool true]) (by simp [results, Tryd.results53, go_sem, *]) rfl ⟨a0, a1, a2, a3, by rw [HE.out.1], fun _ => HE.out.2, ?_⟩
      have hx := EX.out
      (repeat (first | (with_reducible exact Ext.refl _) | (with_reducible assumption) | (with_reducible apply Ext.alloc) | (with_reducible apply Ext.drew) | (with_reducible apply Ext.drewN) | ((with_reducible refine Ext.setCell ?_ ?_ _); rotate_left; (focus (first | (simp; done) | (simp; omega) | omega))) | (with_reducible refine Ext.trans ?_ (by assumption))))
theorem FR.get {w : World} {b o : Nat} {fs : List Flt} (h : FR w b o fs) : ∀ k x, fs[k]? = some x → ∃ b' o', some (⟨b, o, none⟩ : Addr) = some ⟨b', o', none⟩ ∧ b' < w.heap.size ∧ ∀ j u, (Flt.cells x)[j]? = some u → w.cell? ⟨b', o' + k * 5 + j, none⟩ = some u := h
def selI (ok : Bool) (x : Int) : Int := if ok then x else 0
theorem selI_yes {ok : Bool} (h : ok = true) (x : Int) : selI ok x = x := by rw [h]; rfl
theorem selI_no {ok : Bool} (h : ok = false) (x : Int) : selI ok x = 0 := by rw [h]; rfl
abbrev pktO (ok : Bool) (fs : List Flt) (i : Nat) : Value := .agg #[.int .i64 (selI ok 1), .int .i64 (selI ok (leastV fs i 0)), .int .i64 (selI ok (leastV fs i 1)), .int .i64 (selI ok (leastV fs i 2)), .int .i64 (selI ok (leastV fs i 3)), .int .i64 (selI ok 1)]
def wvL (fs : List Flt) (i k : Nat) : List Int := (List.range k).map fun (j : Nat) => leastV fs i (j : Int)
theorem wvL_succ (fs : List Flt) (i k : Nat) : wvL fs i (k + 1) = wvL fs i k ++ [leastV fs i (k : Int)] := by simp [wvL, List.range_succ]
theorem wvL_len (fs : List Flt) (i k : Nat) : (wvL fs i k).length = k := by simp [wvL]
/-- Six numbers in block g, which may be written. -/
theorem W6.blk {w : World} {g : Nat} {T : TypeId} {a0 a1 a2 a3 a4 a5 : Int} (h : Blk w g T #[.int .i64 a0, .int .i64 a1, .int .i64 a2, .int .i64 a3, .int .i64 a4, .int .i64 a5]) :
    (w.cell? ⟨g, 0, none⟩ = some (.int .i64 a0) ∧ w.cell? ⟨g, 1, none⟩ = some (.int .i64 a1) ∧ w.cell? ⟨g, 2, none⟩ = some (.int .i64 a2) ∧ w.cell? ⟨g, 3, none⟩ = some (.int .i64 a3) ∧ w.cell? ⟨g, 4, none⟩ = some (.int .i64 a4) ∧ w.cell? ⟨g, 5, none⟩ = some (.int .i64 a5)) ∧
    (w.frozen? ⟨g, 0, none⟩ = false ∧ w.frozen? ⟨g, 1, none⟩ = false ∧ w.frozen? ⟨g, 2, none⟩ = false ∧ w.frozen? ⟨g, 3, none⟩ = false ∧ w.frozen? ⟨g, 4, none⟩ = false ∧ w.frozen? ⟨g, 5, none⟩ = false) ∧ g < w.heap.size := by
  have hl := h.lt
  unfold Blk at h
  exact ⟨⟨by simp [World.cell?, h], by simp [World.cell?, h], by simp [World.cell?, h], by simp [World.cell?, h], by simp [World.cell?, h], by simp [World.cell?, h]⟩, ⟨by simp [World.frozen?, h], by simp [World.frozen?, h], by simp [World.frozen?, h], by simp [World.frozen?, h], by simp [World.frozen?, h], by simp [World.frozen?, h]⟩, hl⟩
theorem wit_yes {fs : List Flt} {i : Nat} (h : ∀ j : Nat, j < 4 → 0 ≤ leastV fs i (j : Int)) : witOk fs i = true := by
  have h0 := h 0 (by omega)
  have h1 := h 1 (by omega)
  have h2 := h 2 (by omega)
  have h3 := h 3 (by omega)
  simp at h0 h1 h2 h3
  simp [witOk, h0, h1, h2, h3]
theorem spec_fiWitness_any (fv : Value) (fs : List Flt) (i : Nat) (w : World) (hf : RdF w fv fs) (hi : i < fs.length) (hfl : fs.length ≤ 1048576) :
    Calls Tryd.prog 52 #[fv, .int .i64 (i : Int)] w fun e w' => e = .returned (.tuple #[pktO (witOk fs i) fs i, .bool (witOk fs i)]) ∧ Ext w w' := by
  obtain ⟨FA, fc, rfl, hcc, hrf⟩ := hf
  obtain ⟨b, o, rfl, hb, hci⟩ := hrf i fs[i] (List.getElem?_eq_getElem hi)
  have HR := Lib.hid (show FR w b o fs from hrf)
  have HXI := Lib.hid (fltI_is fs i hi)
  rw [← HXI.out] at hci
  have HCI := Lib.hid hci
  clear hrf hci
  have D0 := Ext.refl (w.alloc (.cells #[.int .i64 0, .int .i64 0, .int .i64 0, .int .i64 0, .int .i64 0, .int .i64 0] 43))
  have BP := Lib.hid (Blk.new w 43 #[.int .i64 0, .int .i64 0, .int .i64 0, .int .i64 0, .int .i64 0, .int .i64 0])
  have HST := Lib.hid (show OwnI (w.alloc (.cells #[.int .i64 0, .int .i64 0, .int .i64 0, .int .i64 0, .int .i64 0, .int .i64 0] 43)) (w.heap.size + 1) 3 (.slice none 0 0) [] from World.ownsRow_nil _ _ _ _)
  go_enter Tryd.func52, Tryd.ntmps52
  go_wp2
  go_loopw [7, 6] (fun t s wr => ∃ k : Nat, k ≤ 4 ∧ t = .int .i64 (k : Int) ∧ Hid (∀ j : Nat, j < k → 0 ≤ leastV fs i (j : Int)) ∧ OwnI wr (w.heap.size + 1) 3 s (wvL fs i k) ∧ Ext (w.alloc (.cells #[.int .i64 0, .int .i64 0, .int .i64 0, .int .i64 0, .int .i64 0, .int .i64 0] 43)) wr) (fun t _ _ => 4 - (intOf t).toNat)
  case atStart => exact ⟨0, Nat.zero_le _, rfl, fun j hj => absurd hj (Nat.not_lt_zero _), HST.out, D0⟩
  case round =>
    obtain ⟨k, hk, rfl, hq, hown, hx⟩ := hrel
    have HO := Lib.hid hown
    clear hown
    have hxw := Ext.trans ((Ext.refl w).alloc (.cells #[.int .i64 0, .int .i64 0, .int .i64 0, .int .i64 0, .int .i64 0, .int .i64 0] 43)) hx
    have z0 : b < wr.heap.size := Ext.lts hxw _ hb
    have B1 := Lib.hid (BP.out.ext hx)
    by_cases hlt : k < 4
    · have c0 : wr.cell? ⟨b, o + i * 5, none⟩ = some (.int .i64 (fltI fs i).prio) := by rw [Ext.cell hxw hb]; exact HCI.out 0 _ rfl
      have c1 : wr.cell? ⟨b, o + i * 5 + 1, none⟩ = some (.int .i64 (fltI fs i).field) := by rw [Ext.cell hxw hb]; exact HCI.out 1 _ rfl
      have c2 : wr.cell? ⟨b, o + i * 5 + 2, none⟩ = some (.int .i64 (fltI fs i).mask) := by rw [Ext.cell hxw hb]; exact HCI.out 2 _ rfl
      have c3 : wr.cell? ⟨b, o + i * 5 + 3, none⟩ = some (.int .i64 (fltI fs i).value) := by rw [Ext.cell hxw hb]; exact HCI.out 3 _ rfl
      have c4 : wr.cell? ⟨b, o + i * 5 + 4, none⟩ = some (.int .i64 (fltI fs i).target) := by rw [Ext.cell hxw hb]; exact HCI.out 4 _ rfl
      have hif : i ≤ fc := by omega
      go_wp2_with fail
      (go_wp2_with fail; refine wp_region_ext (by kernel_rfl) (by kernel_rfl) ?_; (repeat (first | go_big_quiet_step ((first | (go_at_call 84; exact calls_later (spec_fiLeastField_any _ _ _ _ _ _ _ hi hif hfl (Ext.lts (hxw.trans (Later.ext _)) _ hb) (HR.out.ext (hxw.trans (Later.ext _))))))) | quiet_step ((first | (go_at_call 84; exact calls_later (spec_fiLeastField_any _ _ _ _ _ _ _ hi hif hfl (Ext.lts (hxw.trans (Later.ext _)) _ hb) (HR.out.ext (hxw.trans (Later.ext _))))))))); refine wpQuiet_nil ?_; intro wq hbq; have hcq := Ext.cells hbq; have hzq := Ext.frozens hbq; have hsq := Ext.lts hbq)
      clear c0 c1 c2 c3 c4 hcq hzq hsq
      have B2 := Lib.hid (B1.out.ext hbq)
      have D2 := hx.trans hbq
      by_cases hneg : leastV fs i (k : Int) < 0
      · have HN := Lib.hid (wit_no (fs := fs) (i := i) k hlt hneg)
        obtain ⟨⟨p0, p1, p2, p3, p4, p5⟩, ⟨g0, g1, g2, g3, g4, g5⟩, hg⟩ := W6.blk B2.out
        have EX := Lib.hid (hxw.trans hbq)
        clear hx hxw hbq D2
        go_wp2
        refine bodyPost_ret (v := .tuple #[.agg #[.int .i64 0, .int .i64 0, .int .i64 0, .int .i64 0, .int .i64 0, .int .i64 0], .bool false]) (by simp [results, Tryd.results52, go_sem, *]) rfl ⟨by rw [HN.out]; rfl, ?_⟩
        have hx := EX.out
        (repeat (first | (with_reducible exact Ext.refl _) | (with_reducible assumption) | (with_reducible apply Ext.alloc) | (with_reducible apply Ext.drew) | (with_reducible apply Ext.drewN) | ((with_reducible refine Ext.setCell ?_ ?_ _); rotate_left; (focus (first | (simp; done) | (simp; omega) | omega))) | (with_reducible refine Ext.trans ?_ (by assumption))))
      · have HAL := Lib.hid (show ∀ j : Nat, j < k + 1 → 0 ≤ leastV fs i (j : Int) from fun j hj => by
          rcases Nat.lt_or_eq_of_le (Nat.le_of_lt_succ hj) with h | h
          · exact hq.out j h
          · rw [h]; omega)
        go_wp2_with (at_builtin; refine app_intB (by simp) (Own.ext HO.out hbq) (by rw [wvL_len]; omega) D2 rfl rfl rfl rfl ?_; intro v2 w2 hown2 D3)
        have HO2 := Lib.hid hown2
        clear hown2
        go_wp2
        go_roundw
        case rel => exact ⟨k + 1, by omega, by go_num, HAL.out, by rw [wvL_succ]; exact HO2.out, D3⟩
        case measure => simp [intOf]; omega
    · obtain rfl : k = 4 := by omega
      have HY := Lib.hid (wit_yes hq.out)
      obtain ⟨A1, k1, hv1, hk1, hr1⟩ := Own.rd HO.out icell_len
      obtain ⟨b1, o1, rfl, hb1, hc0⟩ := hr1 0 (leastV fs i 0) (by simp [wvL])
      obtain ⟨b1', o1', hA1, _, hc1⟩ := hr1 1 (leastV fs i 1) (by simp [wvL])
      simp only [Option.some.injEq, Addr.mk.injEq, and_true] at hA1
      obtain ⟨rfl, rfl⟩ := hA1
      obtain ⟨b1', o1', hA1, _, hc2⟩ := hr1 2 (leastV fs i 2) (by simp [wvL])
      simp only [Option.some.injEq, Addr.mk.injEq, and_true] at hA1
      obtain ⟨rfl, rfl⟩ := hA1
      obtain ⟨b1', o1', hA1, _, hc3⟩ := hr1 3 (leastV fs i 3) (by simp [wvL])
      simp only [Option.some.injEq, Addr.mk.injEq, and_true] at hA1
      obtain ⟨rfl, rfl⟩ := hA1
      rw [wvL_len] at hv1
      subst hv1
      have c0 : wr.cell? ⟨b1, o1, none⟩ = some (.int .i64 (leastV fs i 0)) := by simpa using hc0 0 _ rfl
      have c1 : wr.cell? ⟨b1, o1 + 1, none⟩ = some (.int .i64 (leastV fs i 1)) := by simpa using hc1 0 _ rfl
      have c2 : wr.cell? ⟨b1, o1 + 2, none⟩ = some (.int .i64 (leastV fs i 2)) := by simpa using hc2 0 _ rfl
      have c3 : wr.cell? ⟨b1, o1 + 3, none⟩ = some (.int .i64 (leastV fs i 3)) := by simpa using hc3 0 _ rfl
      clear hr1 hc0 hc1 hc2 hc3
      obtain ⟨⟨p0, p1, p2, p3, p4, p5⟩, ⟨g0, g1, g2, g3, g4, g5⟩, hg⟩ := W6.blk B1.out
      have EX := Lib.hid hxw
      clear hx hxw
      generalize hl0 : leastV fs i 0 = l0 at *
      have HL0 := Lib.hid hl0
      clear hl0
      generalize hl1 : leastV fs i 1 = l1 at *
      have HL1 := Lib.hid hl1
      clear hl1
      generalize hl2 : leastV fs i 2 = l2 at *
      have HL2 := Lib.hid hl2
      clear hl2
      generalize hl3 : leastV fs i 3 = l3 at *
      have HL3 := Lib.hid hl3
      clear hl3
      go_wp2
      go_region
      go_wp2
      refine bodyPost_ret (v := .tuple #[.agg #[.int .i64 1, .int .i64 l0, .int .i64 l1, .int .i64 l2, .int .i64 l3, .int .i64 1], .bool true]) (by simp [results, Tryd.results52, go_sem, *]) rfl ⟨by rw [HY.out]; show _ = Ending.returned (.tuple #[.agg #[.int .i64 1, .int .i64 (leastV fs i 0), .int .i64 (leastV fs i 1), .int .i64 (leastV fs i 2), .int .i64 (leastV fs i 3), .int .i64 1], .bool true]); rw [HL0.out, HL1.out, HL2.out, HL3.out], ?_⟩
      have hx := EX.out
      (repeat (first | (with_reducible exact Ext.refl _) | (with_reducible assumption) | (with_reducible apply Ext.alloc) | (with_reducible apply Ext.drew) | (with_reducible apply Ext.drewN) | ((with_reducible refine Ext.setCell ?_ ?_ _); rotate_left; (focus (first | (simp; done) | (simp; omega) | omega))) | (with_reducible refine Ext.trans ?_ (by assumption))))
def wfB (n : ByteArray) (cs : List Cls) (fs : List Flt) (d i : Int) : Bool := goodB n cs fs d && inR i 0 ((fs.length : Int) - 1)
def wfOk (n : ByteArray) (cs : List Cls) (fs : List Flt) (d i : Int) : Bool := wfB n cs fs d i && witOk fs i.toNat
def ifV (n : ByteArray) (cs : List Cls) (fs : List Flt) (d : Int) : List Int := if goodB n cs fs d then pick (idleP fs) fs.length else []
theorem ifV_len (n : ByteArray) (cs : List Cls) (fs : List Flt) (d : Int) : (ifV n cs fs d).length ≤ 2000000 := by
  unfold ifV
  split
  · rename_i h
    have := (good_len h).2.2
    have := pick_len (idleP fs) fs.length
    omega
  · simp
theorem impl_IdleFilters_any (n : ByteArray) (cv fv : Value) (d : Int) (cs : List Cls) (fs : List Flt) (w : World) (hk : Keys w) (hc : RdC w cv cs) (hf : RdF w fv fs) (hz : n.size + cs.length + fs.length ≤ 1048576) :
    Calls Tryd.prog 28 #[cfgV n cv fv d] w fun e w' => ∃ u, e = .returned (.tuple #[u, .bool (goodB n cs fs d)]) ∧ OwnI w' w.heap.size 3 u (ifV n cs fs d) ∧ Ext w w' := by
  have HC := Lib.hid hc
  have HF := Lib.hid hf
  obtain ⟨FA, fc, rfl, hcc, hrc⟩ := hf
  have HR := Lib.hid hrc
  clear hrc hc
  have HK := Lib.hid hk
  clear hk
  have E0 := (Ext.refl w).alloc (.cells #[.string n, cv, .slice FA fs.length fc, .int .i64 d] 33)
  go_enter Tryd.func28, Tryd.ntmps28
  go_wp2_with fail
  refine (impl_IsConfig_any n _ _ d cs fs _ (HK.out.ext E0) (HC.out.ext E0) (HF.out.ext E0) hz).mono ?_
  rintro e wg1 ⟨rfl, Fg1⟩
  have Eg1 := E0.trans Fg1
  have Xg1 := Fg1
  cases hr1 : goodB n cs fs d
  · have HV := Lib.hid (show ifV n cs fs d = [] by simp [ifV, hr1])
    have HOK := Lib.hid (show (goodB n cs fs d) = false by simp [hr1])
    go_wp2
    go_ret2
    exact ⟨_, by rw [HOK.out]; rfl, by rw [HV.out]; exact World.ownsRow_nil _ _ _ _, Eg1⟩
  obtain ⟨q0, q1, q2, q3, q4⟩ := (Box.new w n cv (.slice FA fs.length fc) d 33).ext Xg1
  have HV := Lib.hid (show ifV n cs fs d = pick (idleP fs) fs.length by simp [ifV, hr1])
  have HRW := Lib.hid (show (goodB n cs fs d) = true by simp [hr1])
  have HR1 := Lib.hid hr1
  clear hr1
  have D0 := (show Ext (w.alloc (.cells #[.string n, cv, .slice FA fs.length fc, .int .i64 d] 33)) _ from Xg1).alloc (.cells #[] 3)
  have HLT : w.heap.size + 1 ≤ wg1.heap.size := by have := q4; omega
  have HST := Lib.hid (show OwnI (wg1.alloc (.cells #[] 3)) (w.heap.size + 1) 3 (.slice (some ⟨wg1.heap.size, 0, none⟩) 0 0) [] by
    have := World.ownsRow_lit (base := w.heap.size + 1) (e := 3) (size := 1) wg1 #[] 0 (by omega) (by unfold maxLen; omega) rfl
    unfold OwnI Own
    simpa using this)
  go_wp2
  clear q0 q1 q2 q3 q4
  go_loopw [15, 4] (fun t s wr => ∃ k : Nat, k ≤ fs.length ∧ t = .int .i64 (k : Int) ∧ OwnI wr (w.heap.size + 1) 3 s (pick (idleP fs) k) ∧ Ext (w.alloc (.cells #[.string n, cv, .slice FA fs.length fc, .int .i64 d] 33)) wr) (fun t _ _ => fs.length - (intOf t).toNat)
  case atStart => exact ⟨0, Nat.zero_le _, rfl, HST.out, D0⟩
  case round =>
    obtain ⟨k, hk, rfl, hown, hx⟩ := hrel
    have HO := Lib.hid hown
    have hxw := Ext.trans ((Ext.refl w).alloc (.cells #[.string n, cv, .slice FA fs.length fc, .int .i64 d] 33)) hx
    have BX := Lib.hid ((Box.new w n cv (.slice FA fs.length fc) d 33).ext hx)
    clear hown
    by_cases hlt : k < fs.length
    · have HPK := Lib.hid (show pick (idleP fs) (k + 1) = pick (idleP fs) k ++ (if (idleP fs) k then [(k : Int)] else []) from rfl)
      have HLN := Lib.hid (show (pick (idleP fs) k).length ≤ 10000000 by have := pick_len (idleP fs) k; omega)
      obtain ⟨q0, q1, q2, q3, q4⟩ := BX.out
      go_wp2_with fail
      refine (impl_witness_any _ fs k _ (HF.out.ext hxw) hlt (by omega)).mono ?_
      rintro e w1 ⟨a0, a1, a2, a3, rfl, _, F1⟩
      clear q0 q1 q2 q3 q4
      cases he : witOk fs k
      · have HT := Lib.hid (show idleP fs k = true by rw [idleP, he]; rfl)
        go_wp2_with (at_builtin; refine app_intB (by simp) (Own.ext HO.out (F1.alloc _)) HLN.out ((hx.trans F1).alloc _) rfl rfl rfl (by show Value.slice _ _ _ = _; simp) ?_; intro v2 w2 hown2 D2)
        have HO2 := Lib.hid hown2
        clear hown2
        go_wp2
        go_roundw
        case rel => exact ⟨k + 1, by omega, by go_num, by rw [HPK.out, HT.out]; exact HO2.out, D2⟩
        case measure => simp [intOf]; omega
      · have HF' := Lib.hid (show idleP fs k = false by rw [idleP, he]; rfl)
        have HF := HF'
        go_wp2
        go_roundw
        case rel => exact ⟨k + 1, by omega, by go_num, by rw [HPK.out, HF.out]; simp only [Bool.false_eq_true, if_false, List.append_nil]; exact Own.ext HO.out (F1.alloc _), ((hx.trans F1).alloc _)⟩
        case measure => simp [intOf]; omega
    · obtain rfl : k = fs.length := by omega
      go_wp2
      go_ret2
      exact ⟨_, by rw [HRW.out]; rfl, by rw [HV.out]; exact Own.mono HO.out (by omega), hxw⟩
theorem spec_IdleFilters_any (n : ByteArray) (cv fv : Value) (d : Int) (cs : List Cls) (fs : List Flt) (w : World) (hk : Keys w) (hc : RdC w cv cs) (hf : RdF w fv fs) (hz : n.size + cs.length + fs.length ≤ 1048576) :
    Calls Tryd.prog 27 #[cfgV n cv fv d] w fun e w' => ∃ u, e = .returned (.tuple #[u, .bool (goodB n cs fs d)]) ∧ OwnI w' w.heap.size 3 u (ifV n cs fs d) ∧ Ext w w' := by
  have HC := Lib.hid hc
  have HF := Lib.hid hf
  obtain ⟨FA, fc, rfl, hcc, hrc⟩ := hf
  have HR := Lib.hid hrc
  clear hrc hc
  have HK := Lib.hid hk
  clear hk
  have E0 := (Ext.refl w).alloc (.cells #[.string n, cv, .slice FA fs.length fc, .int .i64 d] 33)
  go_enter Tryd.func27, Tryd.ntmps27
  go_wp2_with fail
  refine (spec_cfGood_any n _ _ d cs fs _ (HK.out.ext E0) (HC.out.ext E0) (HF.out.ext E0) hz).mono ?_
  rintro e wg1 ⟨rfl, Fg1⟩
  have Eg1 := E0.trans Fg1
  have Xg1 := Fg1
  cases hr1 : goodB n cs fs d
  · have HV := Lib.hid (show ifV n cs fs d = [] by simp [ifV, hr1])
    have HOK := Lib.hid (show (goodB n cs fs d) = false by simp [hr1])
    go_wp2
    go_ret2
    exact ⟨_, by rw [HOK.out]; rfl, by rw [HV.out]; exact World.ownsRow_nil _ _ _ _, Eg1⟩
  obtain ⟨q0, q1, q2, q3, q4⟩ := (Box.new w n cv (.slice FA fs.length fc) d 33).ext Xg1
  have HV := Lib.hid (show ifV n cs fs d = pick (idleP fs) fs.length by simp [ifV, hr1])
  have HRW := Lib.hid (show (goodB n cs fs d) = true by simp [hr1])
  have HR1 := Lib.hid hr1
  clear hr1
  have D0 := (show Ext (w.alloc (.cells #[.string n, cv, .slice FA fs.length fc, .int .i64 d] 33)) _ from Xg1)
  have HST := Lib.hid (show OwnI wg1 (w.heap.size + 1) 3 (.slice none 0 0) [] from World.ownsRow_nil _ _ _ _)
  go_wp2
  clear q0 q1 q2 q3 q4
  go_loopw [14, 4] (fun t s wr => ∃ k : Nat, k ≤ fs.length ∧ t = .int .i64 (k : Int) ∧ OwnI wr (w.heap.size + 1) 3 s (pick (idleP fs) k) ∧ Ext (w.alloc (.cells #[.string n, cv, .slice FA fs.length fc, .int .i64 d] 33)) wr) (fun t _ _ => fs.length - (intOf t).toNat)
  case atStart => exact ⟨0, Nat.zero_le _, rfl, HST.out, D0⟩
  case round =>
    obtain ⟨k, hk, rfl, hown, hx⟩ := hrel
    have HO := Lib.hid hown
    have hxw := Ext.trans ((Ext.refl w).alloc (.cells #[.string n, cv, .slice FA fs.length fc, .int .i64 d] 33)) hx
    have BX := Lib.hid ((Box.new w n cv (.slice FA fs.length fc) d 33).ext hx)
    clear hown
    by_cases hlt : k < fs.length
    · have HPK := Lib.hid (show pick (idleP fs) (k + 1) = pick (idleP fs) k ++ (if (idleP fs) k then [(k : Int)] else []) from rfl)
      have HLN := Lib.hid (show (pick (idleP fs) k).length ≤ 10000000 by have := pick_len (idleP fs) k; omega)
      obtain ⟨q0, q1, q2, q3, q4⟩ := BX.out
      go_wp2_with fail
      refine (spec_fiWitness_any _ fs k _ (HF.out.ext hxw) hlt (by omega)).mono ?_
      rintro e w1 ⟨rfl, F1⟩
      clear q0 q1 q2 q3 q4
      cases he : witOk fs k
      · have HT := Lib.hid (show idleP fs k = true by rw [idleP, he]; rfl)
        go_wp2_with (at_builtin; refine app_intB (by simp) (Own.ext HO.out (F1.alloc _)) HLN.out ((hx.trans F1).alloc _) rfl rfl rfl (by show Value.slice _ _ _ = _; simp) ?_; intro v2 w2 hown2 D2)
        have HO2 := Lib.hid hown2
        clear hown2
        go_wp2
        go_roundw
        case rel => exact ⟨k + 1, by omega, by go_num, by rw [HPK.out, HT.out]; exact HO2.out, D2⟩
        case measure => simp [intOf]; omega
      · have HF' := Lib.hid (show idleP fs k = false by rw [idleP, he]; rfl)
        have HF := HF'
        go_wp2
        go_roundw
        case rel => exact ⟨k + 1, by omega, by go_num, by rw [HPK.out, HF.out]; simp only [Bool.false_eq_true, if_false, List.append_nil]; exact Own.ext HO.out (F1.alloc _), ((hx.trans F1).alloc _)⟩
        case measure => simp [intOf]; omega
    · obtain rfl : k = fs.length := by omega
      go_wp2
      go_ret2
      exact ⟨_, by rw [HRW.out]; rfl, by rw [HV.out]; exact Own.mono HO.out (by omega), hxw⟩
theorem wf_no {n : ByteArray} {cs : List Cls} {fs : List Flt} {d i : Int} (h : wfB n cs fs d i = false) : wfOk n cs fs d i = false := by rw [wfOk, h]; rfl
theorem impl_WitnessFor_any (n : ByteArray) (cv fv : Value) (d i : Int) (cs : List Cls) (fs : List Flt) (w : World) (hk : Keys w) (hc : RdC w cv cs) (hf : RdF w fv fs) (hz : n.size + cs.length + fs.length ≤ 1048576) :
    Calls Tryd.prog 25 #[cfgV n cv fv d, .int .i64 i] w fun e w' => e = .returned (.tuple #[pktO (wfOk n cs fs d i) fs i.toNat, .bool (wfOk n cs fs d i)]) ∧ Ext w w' := by
  have hfs := hf
  obtain ⟨FA, fc, rfl, hcc, _⟩ := hfs
  have HC := Lib.hid hc
  have HF := Lib.hid hf
  have HK := Lib.hid hk
  clear hc hf hk
  have E0 := (Ext.refl w).alloc (.cells #[.string n, cv, .slice FA fs.length fc, .int .i64 d] 33)
  have B0 := Lib.hid (Box.new w n cv (.slice FA fs.length fc) d 33)
  have E1 := E0.alloc (.cells #[.int .i64 0, .int .i64 0, .int .i64 0, .int .i64 0, .int .i64 0, .int .i64 0] 43)
  have BP := Lib.hid (show Blk ((w.alloc (.cells #[.string n, cv, .slice FA fs.length fc, .int .i64 d] 33)).alloc (.cells #[.int .i64 0, .int .i64 0, .int .i64 0, .int .i64 0, .int .i64 0, .int .i64 0] 43)) (w.heap.size + 1) 43 #[.int .i64 0, .int .i64 0, .int .i64 0, .int .i64 0, .int .i64 0, .int .i64 0] by
    have := Blk.new (w.alloc (.cells #[.string n, cv, .slice FA fs.length fc, .int .i64 d] 33)) 43 #[.int .i64 0, .int .i64 0, .int .i64 0, .int .i64 0, .int .i64 0, .int .i64 0]
    simpa using this)
  have HWB := Lib.hid (show wfB n cs fs d i = (goodB n cs fs d && inR i 0 ((fs.length : Int) - 1)) from rfl)
  go_enter Tryd.func25, Tryd.ntmps25
  go_wp2_with fail
  refine (impl_IsConfig_any n _ _ d cs fs _ (HK.out.ext E1) (HC.out.ext E1) (HF.out.ext E1) hz).mono ?_
  rintro e wg ⟨rfl, Fg⟩
  have Eg := E1.trans Fg
  have BPg := Lib.hid (BP.out.ext Fg)
  cases hr : goodB n cs fs d
  · have HN := Lib.hid (wf_no (show wfB n cs fs d i = false by rw [HWB.out, hr]; rfl))
    obtain ⟨⟨p0, p1, p2, p3, p4, p5⟩, ⟨g0, g1, g2, g3, g4, g5⟩, hg⟩ := W6.blk BPg.out
    have EXX := Lib.hid (Eg)
    clear Eg Fg E0 E1
    go_wp2
    refine bodyPost_ret (v := .tuple #[.agg #[.int .i64 0, .int .i64 0, .int .i64 0, .int .i64 0, .int .i64 0, .int .i64 0], .bool false]) (by simp [results, Tryd.results25, go_sem, *]) rfl ⟨by rw [HN.out]; rfl, ?_⟩
    have hx := EXX.out
    (repeat (first | (with_reducible exact Ext.refl _) | (with_reducible assumption) | (with_reducible apply Ext.alloc) | (with_reducible apply Ext.drew) | (with_reducible apply Ext.drewN) | ((with_reducible refine Ext.setCell ?_ ?_ _); rotate_left; (focus (first | (simp; done) | (simp; omega) | omega))) | (with_reducible refine Ext.trans ?_ (by assumption))))
  have HRW := Lib.hid hr
  have B1 := Lib.hid (B0.out.ext (((Ext.refl _).alloc (.cells #[.int .i64 0, .int .i64 0, .int .i64 0, .int .i64 0, .int .i64 0, .int .i64 0] 43)).trans Fg))
  obtain ⟨q0, q1, q2, q3, q4⟩ := B1.out
  cases hin : inR i 0 ((fs.length : Int) - 1)
  · have HN := Lib.hid (wf_no (show wfB n cs fs d i = false by rw [HWB.out, hin, Bool.and_false]))
    have hn := inR_not.1 hin
    clear hin
    by_cases hi0 : i < 0
    · clear hn
      obtain ⟨⟨p0, p1, p2, p3, p4, p5⟩, ⟨g0, g1, g2, g3, g4, g5⟩, hg⟩ := W6.blk BPg.out
      have EXX := Lib.hid (Eg)
      clear Eg Fg E0 E1
      go_wp2
      refine bodyPost_ret (v := .tuple #[.agg #[.int .i64 0, .int .i64 0, .int .i64 0, .int .i64 0, .int .i64 0, .int .i64 0], .bool false]) (by simp [results, Tryd.results25, go_sem, *]) rfl ⟨by rw [HN.out]; rfl, ?_⟩
      have hx := EXX.out
      (repeat (first | (with_reducible exact Ext.refl _) | (with_reducible assumption) | (with_reducible apply Ext.alloc) | (with_reducible apply Ext.drew) | (with_reducible apply Ext.drewN) | ((with_reducible refine Ext.setCell ?_ ?_ _); rotate_left; (focus (first | (simp; done) | (simp; omega) | omega))) | (with_reducible refine Ext.trans ?_ (by assumption))))
    · have hi1 : (fs.length : Int) ≤ i := by omega
      clear hn
      obtain ⟨⟨p0, p1, p2, p3, p4, p5⟩, ⟨g0, g1, g2, g3, g4, g5⟩, hg⟩ := W6.blk BPg.out
      have EXX := Lib.hid (Eg)
      clear Eg Fg E0 E1
      go_wp2
      refine bodyPost_ret (v := .tuple #[.agg #[.int .i64 0, .int .i64 0, .int .i64 0, .int .i64 0, .int .i64 0, .int .i64 0], .bool false]) (by simp [results, Tryd.results25, go_sem, *]) rfl ⟨by rw [HN.out]; rfl, ?_⟩
      have hx := EXX.out
      (repeat (first | (with_reducible exact Ext.refl _) | (with_reducible assumption) | (with_reducible apply Ext.alloc) | (with_reducible apply Ext.drew) | (with_reducible apply Ext.drewN) | ((with_reducible refine Ext.setCell ?_ ?_ _); rotate_left; (focus (first | (simp; done) | (simp; omega) | omega))) | (with_reducible refine Ext.trans ?_ (by assumption))))
  have hn := inR_iff.1 hin
  have HWT := Lib.hid (show wfB n cs fs d i = true by rw [HWB.out, hin, HRW.out]; rfl)
  clear hin
  obtain ⟨h1, h2⟩ := hn
  obtain ⟨j, rfl⟩ := Int.eq_ofNat_of_zero_le h1
  have hj : j < fs.length := by omega
  clear h1 h2
  have HWO := Lib.hid (show wfOk n cs fs d (j : Int) = witOk fs j by rw [wfOk, HWT.out, Int.toNat_natCast]; rfl)
  go_wp2_with fail
  clear q0 q1 q2 q3 q4
  refine (impl_witness_any _ fs j _ (HF.out.ext Eg) hj (by omega)).mono ?_
  rintro e w1 ⟨a0, a1, a2, a3, rfl, hwa, F1⟩
  have E2 := Eg.trans F1
  have BP1 := Lib.hid (BPg.out.ext F1)
  cases hk : witOk fs j
  · have HN := Lib.hid (show wfOk n cs fs d (j : Int) = false by rw [HWO.out, hk])
    clear hwa
    obtain ⟨⟨p0, p1, p2, p3, p4, p5⟩, ⟨g0, g1, g2, g3, g4, g5⟩, hg⟩ := W6.blk BP1.out
    have EXX := Lib.hid (E2)
    clear E2 Eg Fg E0 E1 F1
    go_wp2
    refine bodyPost_ret (v := .tuple #[.agg #[.int .i64 0, .int .i64 0, .int .i64 0, .int .i64 0, .int .i64 0, .int .i64 0], .bool false]) (by simp [results, Tryd.results25, go_sem, *]) rfl ⟨by rw [HN.out]; rfl, ?_⟩
    have hx := EXX.out
    (repeat (first | (with_reducible exact Ext.refl _) | (with_reducible assumption) | (with_reducible apply Ext.alloc) | (with_reducible apply Ext.drew) | (with_reducible apply Ext.drewN) | ((with_reducible refine Ext.setCell ?_ ?_ _); rotate_left; (focus (first | (simp; done) | (simp; omega) | omega))) | (with_reducible refine Ext.trans ?_ (by assumption))))
  · have HN := Lib.hid (show wfOk n cs fs d (j : Int) = true by rw [HWO.out, hk])
    have HA := Lib.hid (hwa hk)
    clear hwa
    obtain ⟨⟨p0, p1, p2, p3, p4, p5⟩, ⟨g0, g1, g2, g3, g4, g5⟩, hg⟩ := W6.blk BP1.out
    have EXX := Lib.hid (E2)
    clear E2 Eg Fg E0 E1 F1
    go_wp2
    refine bodyPost_ret (v := .tuple #[.agg #[.int .i64 1, .int .i64 a0, .int .i64 a1, .int .i64 a2, .int .i64 a3, .int .i64 1], .bool true]) (by simp [results, Tryd.results25, go_sem, *]) rfl ⟨by rw [HN.out, HA.out.1, HA.out.2.1, HA.out.2.2.1, HA.out.2.2.2, Int.toNat_natCast]; rfl, ?_⟩
    have hx := EXX.out
    (repeat (first | (with_reducible exact Ext.refl _) | (with_reducible assumption) | (with_reducible apply Ext.alloc) | (with_reducible apply Ext.drew) | (with_reducible apply Ext.drewN) | ((with_reducible refine Ext.setCell ?_ ?_ _); rotate_left; (focus (first | (simp; done) | (simp; omega) | omega))) | (with_reducible refine Ext.trans ?_ (by assumption))))
theorem spec_WitnessFor_any (n : ByteArray) (cv fv : Value) (d i : Int) (cs : List Cls) (fs : List Flt) (w : World) (hk : Keys w) (hc : RdC w cv cs) (hf : RdF w fv fs) (hz : n.size + cs.length + fs.length ≤ 1048576) :
    Calls Tryd.prog 24 #[cfgV n cv fv d, .int .i64 i] w fun e w' => e = .returned (.tuple #[pktO (wfOk n cs fs d i) fs i.toNat, .bool (wfOk n cs fs d i)]) ∧ Ext w w' := by
  have hfs := hf
  obtain ⟨FA, fc, rfl, hcc, _⟩ := hfs
  have HC := Lib.hid hc
  have HF := Lib.hid hf
  have HK := Lib.hid hk
  clear hc hf hk
  have E0 := (Ext.refl w).alloc (.cells #[.string n, cv, .slice FA fs.length fc, .int .i64 d] 33)
  have B0 := Lib.hid (Box.new w n cv (.slice FA fs.length fc) d 33)
  have E1 := E0.alloc (.cells #[.int .i64 0, .int .i64 0, .int .i64 0, .int .i64 0, .int .i64 0, .int .i64 0] 43)
  have BP := Lib.hid (show Blk ((w.alloc (.cells #[.string n, cv, .slice FA fs.length fc, .int .i64 d] 33)).alloc (.cells #[.int .i64 0, .int .i64 0, .int .i64 0, .int .i64 0, .int .i64 0, .int .i64 0] 43)) (w.heap.size + 1) 43 #[.int .i64 0, .int .i64 0, .int .i64 0, .int .i64 0, .int .i64 0, .int .i64 0] by
    have := Blk.new (w.alloc (.cells #[.string n, cv, .slice FA fs.length fc, .int .i64 d] 33)) 43 #[.int .i64 0, .int .i64 0, .int .i64 0, .int .i64 0, .int .i64 0, .int .i64 0]
    simpa using this)
  have HWB := Lib.hid (show wfB n cs fs d i = (goodB n cs fs d && inR i 0 ((fs.length : Int) - 1)) from rfl)
  go_enter Tryd.func24, Tryd.ntmps24
  go_wp2_with fail
  refine (spec_cfGood_any n _ _ d cs fs _ (HK.out.ext E1) (HC.out.ext E1) (HF.out.ext E1) hz).mono ?_
  rintro e wg ⟨rfl, Fg⟩
  have Eg := E1.trans Fg
  have BPg := Lib.hid (BP.out.ext Fg)
  cases hr : goodB n cs fs d
  · have HN := Lib.hid (wf_no (show wfB n cs fs d i = false by rw [HWB.out, hr]; rfl))
    obtain ⟨⟨p0, p1, p2, p3, p4, p5⟩, ⟨g0, g1, g2, g3, g4, g5⟩, hg⟩ := W6.blk BPg.out
    have EXX := Lib.hid (Eg)
    clear Eg Fg E0 E1
    go_wp2
    refine bodyPost_ret (v := .tuple #[.agg #[.int .i64 0, .int .i64 0, .int .i64 0, .int .i64 0, .int .i64 0, .int .i64 0], .bool false]) (by simp [results, Tryd.results24, go_sem, *]) rfl ⟨by rw [HN.out]; rfl, ?_⟩
    have hx := EXX.out
    (repeat (first | (with_reducible exact Ext.refl _) | (with_reducible assumption) | (with_reducible apply Ext.alloc) | (with_reducible apply Ext.drew) | (with_reducible apply Ext.drewN) | ((with_reducible refine Ext.setCell ?_ ?_ _); rotate_left; (focus (first | (simp; done) | (simp; omega) | omega))) | (with_reducible refine Ext.trans ?_ (by assumption))))
  have HRW := Lib.hid hr
  have B1 := Lib.hid (B0.out.ext (((Ext.refl _).alloc (.cells #[.int .i64 0, .int .i64 0, .int .i64 0, .int .i64 0, .int .i64 0, .int .i64 0] 43)).trans Fg))
  obtain ⟨q0, q1, q2, q3, q4⟩ := B1.out
  go_wp2_with fail
  refine (spec_l1In_any _ _ _ _).mono ?_
  rintro e w2 ⟨rfl, rfl⟩
  cases hin : inR i 0 ((fs.length : Int) - 1)
  · have HN := Lib.hid (wf_no (show wfB n cs fs d i = false by rw [HWB.out, hin, Bool.and_false]))
    obtain ⟨⟨p0, p1, p2, p3, p4, p5⟩, ⟨g0, g1, g2, g3, g4, g5⟩, hg⟩ := W6.blk BPg.out
    have EXX := Lib.hid (Eg)
    clear Eg Fg E0 E1
    go_wp2
    refine bodyPost_ret (v := .tuple #[.agg #[.int .i64 0, .int .i64 0, .int .i64 0, .int .i64 0, .int .i64 0, .int .i64 0], .bool false]) (by simp [results, Tryd.results24, go_sem, *]) rfl ⟨by rw [HN.out]; rfl, ?_⟩
    have hx := EXX.out
    (repeat (first | (with_reducible exact Ext.refl _) | (with_reducible assumption) | (with_reducible apply Ext.alloc) | (with_reducible apply Ext.drew) | (with_reducible apply Ext.drewN) | ((with_reducible refine Ext.setCell ?_ ?_ _); rotate_left; (focus (first | (simp; done) | (simp; omega) | omega))) | (with_reducible refine Ext.trans ?_ (by assumption))))
  have hn := inR_iff.1 hin
  have HWT := Lib.hid (show wfB n cs fs d i = true by rw [HWB.out, hin, HRW.out]; rfl)
  obtain ⟨h1, h2⟩ := hn
  obtain ⟨j, rfl⟩ := Int.eq_ofNat_of_zero_le h1
  have hj : j < fs.length := by omega
  clear h1 h2
  have HWO := Lib.hid (show wfOk n cs fs d (j : Int) = witOk fs j by rw [wfOk, HWT.out, Int.toNat_natCast]; rfl)
  go_wp2_with fail
  clear q0 q1 q2 q3 q4
  refine (spec_fiWitness_any _ fs j _ (HF.out.ext Eg) hj (by omega)).mono ?_
  rintro e w1 ⟨rfl, F1⟩
  have E2 := Eg.trans F1
  have BP1 := Lib.hid (BPg.out.ext F1)
  obtain ⟨⟨p0, p1, p2, p3, p4, p5⟩, ⟨g0, g1, g2, g3, g4, g5⟩, hg⟩ := W6.blk BP1.out
  have EXX := Lib.hid (E2)
  clear E2 Eg Fg E0 E1 F1
  go_wp2
  refine bodyPost_ret (v := .tuple #[.agg #[.int .i64 (selI (witOk fs j) 1), .int .i64 (selI (witOk fs j) (leastV fs j 0)), .int .i64 (selI (witOk fs j) (leastV fs j 1)), .int .i64 (selI (witOk fs j) (leastV fs j 2)), .int .i64 (selI (witOk fs j) (leastV fs j 3)), .int .i64 (selI (witOk fs j) 1)], .bool (witOk fs j)]) (by simp [results, Tryd.results24, go_sem, *]) rfl ⟨by rw [HWO.out, Int.toNat_natCast], ?_⟩
  have hx := EXX.out
  (repeat (first | (with_reducible exact Ext.refl _) | (with_reducible assumption) | (with_reducible apply Ext.alloc) | (with_reducible apply Ext.drew) | (with_reducible apply Ext.drewN) | ((with_reducible refine Ext.setCell ?_ ?_ _); rotate_left; (focus (first | (simp; done) | (simp; omega) | omega))) | (with_reducible refine Ext.trans ?_ (by assumption))))
theorem laws_eqPacketW_any (a b c d e f : Int) (w : World) :
    Calls Tryd.prog 26 #[.agg #[.int .i64 a, .int .i64 b, .int .i64 c, .int .i64 d, .int .i64 e, .int .i64 f], .agg #[.int .i64 a, .int .i64 b, .int .i64 c, .int .i64 d, .int .i64 e, .int .i64 f]] w fun en w' => en = .returned (.bool true) ∧ Ext w w' := by
  go_enter Tryd.func26, Tryd.ntmps26
  go_wp2
  go_ret
  refine ⟨rfl, ?_⟩
  (repeat (first | (with_reducible exact Ext.refl _) | (with_reducible assumption) | (with_reducible apply Ext.alloc) | (with_reducible apply Ext.drew) | (with_reducible apply Ext.drewN) | ((with_reducible refine Ext.setCell ?_ ?_ _); rotate_left; (focus (first | (simp; done) | (simp; omega) | omega))) | (with_reducible refine Ext.trans ?_ (by assumption))))
end Go.Proofs.YtjjflfoecdnegaaDoor
