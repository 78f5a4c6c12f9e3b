/- Contracts: storable configurations. Printed by wip/tools/gen_stor.py. -/
import Derived.Test.YtifhjhgccknndaaDoorCfgS
import Derived.Test.YtifhjhgccknndaaDoorAttrN
import Derived.Test.YtifhjhgccknndaaDoorKey
namespace Go.Proofs.YtifhjhgccknndaaDoor
open Go.RowKit
set_option maxHeartbeats 2000000
set_option linter.unusedSimpArgs false
set_option linter.unusedVariables false

def ClsOk (x : Cls) : Bool := inAll 0 1000000000 x.nums
def FltOk (x : Flt) : Bool := inAll 0 1000000000 x.nums
theorem all_step {α : Type} (p : α → Bool) (l : List α) (k : Nat) (h : k < l.length) : (l.drop k).all p = (p l[k] && (l.drop (k + 1)).all p) := by
  rw [List.drop_eq_getElem_cons h, List.all_cons]
/-- The configuration is storable. -/
def rawB (n : ByteArray) (cs : List Cls) (fs : List Flt) (d : Int) : Bool := nameB n && decide (cs.length ≤ 24) && decide (fs.length ≤ 16) && inR d 0 1000000000 && cs.all ClsOk && fs.all FltOk

theorem impl_IsStorable_any (n : ByteArray) (cv fv : Value) (d : Int) (cs : List Cls) (fs : List Flt) (w : World) (hk : Keys w) (hc : RdC w cv cs) (hf : RdF w fv fs) (hcl : cs.length ≤ 1048576) (hfl : fs.length ≤ 1048576) :
    Calls Tryd.prog 10 #[cfgV n cv fv d] w fun e w' => e = .returned (.bool (rawB n cs fs d)) ∧ Ext w w' := by
  obtain ⟨CA, cc, rfl, hcc, hrc⟩ := hc
  obtain ⟨FA, fc, rfl, hfc, hrf⟩ := hf
  have HRCls := Lib.hid hrc
  have HRFlt := Lib.hid hrf
  have HK := Lib.hid hk
  clear hrc hrf hk
  have E0 := (Ext.refl w).alloc (.cells #[.string n, .slice CA cs.length cc, .slice FA fs.length fc, .int .i64 d] 31)
  go_enter Tryd.func10, Tryd.ntmps10
  go_wp2_with fail
  refine (impl_isName_any n _ (HK.out.ext E0)).mono ?_
  rintro e w1 ⟨rfl, F1⟩
  (have hca := Ext.cells F1; have hza := Ext.frozens F1; have hsa := Ext.lts F1; have hsa0 : w.heap.size < w1.heap.size := Ext.lts F1 _ (by simp <;> omega); have hca0 : ∀ o, w1.cell? ⟨w.heap.size, o, none⟩ = _ := fun o => Ext.cells F1 _ o (by simp <;> omega); have hza0 : ∀ o, w1.frozen? ⟨w.heap.size, o, none⟩ = _ := fun o => Ext.frozens F1 _ o (by simp <;> omega); try clear hca hza)
  have E1 := E0.trans F1
  have h4 : (nameB n = false) ∨ (nameB n = true ∧ 24 < cs.length) ∨ (nameB n = true ∧ cs.length ≤ 24 ∧ 16 < fs.length) ∨ (nameB n = true ∧ cs.length ≤ 24 ∧ fs.length ≤ 16 ∧ inR d 0 1000000000 = false) ∨ (nameB n = true ∧ cs.length ≤ 24 ∧ fs.length ≤ 16 ∧ inR d 0 1000000000 = true) := by
    cases nameB n
    · exact .inl rfl
    · by_cases a1 : cs.length ≤ 24
      · by_cases a2 : fs.length ≤ 16
        · cases a3 : inR d 0 1000000000
          · exact .inr (.inr (.inr (.inl ⟨rfl, a1, a2, rfl⟩)))
          · exact .inr (.inr (.inr (.inr ⟨rfl, a1, a2, rfl⟩)))
        · exact .inr (.inr (.inl ⟨rfl, a1, by omega⟩))
      · exact .inr (.inl ⟨rfl, by omega⟩)
  rcases h4 with h1 | ⟨h1, h2⟩ | ⟨h1, h2, h3⟩ | ⟨h1, h2, h3, h4⟩ | ⟨h1, h2, h3, h4⟩
  · have HF := Lib.hid (show rawB n cs fs d = false by simp [rawB, h1])
    rw [h1]
    go_wp2
    go_ret
    exact ⟨by rw [HF.out]; rfl, E1⟩
  · have HF := Lib.hid (show rawB n cs fs d = false by simp [rawB]; omega)
    rw [h1]
    go_wp2
    go_ret
    exact ⟨by rw [HF.out]; rfl, E1⟩
  · have HF := Lib.hid (show rawB n cs fs d = false by simp [rawB]; omega)
    rw [h1]
    go_wp2
    go_ret
    exact ⟨by rw [HF.out]; rfl, E1⟩
  · have HF := Lib.hid (show rawB n cs fs d = false by simp [rawB, h4])
    rw [h1]
    go_wp2_with (go_at_call 28; refine (impl_isValue_any _ _ ).mono ?_; rintro e w' ⟨rfl, rfl⟩)
    go_ret
    exact ⟨by rw [HF.out]; rfl, E1⟩
  rw [h1]
  go_wp2_with (go_at_call 28; refine (impl_isValue_any _ _ ).mono ?_; rintro e w' ⟨rfl, rfl⟩)
  clear hca0 hza0 hsa0
  go_loopw [32] (fun t wr => ∃ k : Nat, k ≤ cs.length ∧ t = .int .i64 (k : Int) ∧ Hid (cs.all ClsOk = (cs.drop k).all ClsOk) ∧ Ext (w.alloc (.cells #[.string n, .slice CA cs.length cc, .slice FA fs.length fc, .int .i64 d] 31)) wr) (fun t _ => cs.length - (intOf t).toNat)
  case atStart => exact ⟨0, Nat.zero_le _, rfl, rfl, by assumption⟩
  case round =>
    obtain ⟨k, hk, rfl, hq, hx⟩ := hrel
    by_cases hlt : k < cs.length
    · have hxw := Ext.trans ((Ext.refl w).alloc (.cells #[.string n, .slice CA cs.length cc, .slice FA fs.length fc, .int .i64 d] 31)) hx
      obtain ⟨b, o, rfl, hb, hcell⟩ := HRCls.out k cs[k] (List.getElem?_eq_getElem hlt)
      have hst := all_step ClsOk cs k hlt
      generalize cs[k] = x at hcell hst
      have HST := Lib.hid hst
      have c0 : wr.cell? ⟨b, o + k * 8, none⟩ = some (.int .i64 x.id) := by rw [Ext.cell hxw hb]; exact hcell 0 _ rfl
      have c1 : wr.cell? ⟨b, o + k * 8 + 1, none⟩ = some (.int .i64 x.parent) := by rw [Ext.cell hxw hb]; exact hcell 1 _ rfl
      have c2 : wr.cell? ⟨b, o + k * 8 + 2, none⟩ = some (.int .i64 x.rate) := by rw [Ext.cell hxw hb]; exact hcell 2 _ rfl
      have c3 : wr.cell? ⟨b, o + k * 8 + 3, none⟩ = some (.int .i64 x.ceil) := by rw [Ext.cell hxw hb]; exact hcell 3 _ rfl
      have c4 : wr.cell? ⟨b, o + k * 8 + 4, none⟩ = some (.int .i64 x.burst) := by rw [Ext.cell hxw hb]; exact hcell 4 _ rfl
      have c5 : wr.cell? ⟨b, o + k * 8 + 5, none⟩ = some (.int .i64 x.cburst) := by rw [Ext.cell hxw hb]; exact hcell 5 _ rfl
      have c6 : wr.cell? ⟨b, o + k * 8 + 6, none⟩ = some (.int .i64 x.prio) := by rw [Ext.cell hxw hb]; exact hcell 6 _ rfl
      have c7 : wr.cell? ⟨b, o + k * 8 + 7, none⟩ = some (.int .i64 x.limit) := by rw [Ext.cell hxw hb]; exact hcell 7 _ rfl
      clear hcell hst
      go_wp2_with fail
      refine (impl_classNumbers_any x _).mono ?_
      rintro e w1 ⟨v1, rfl, O1, F1⟩
      have E1 := (hx.alloc _).trans F1
      have R1 := Lib.hid (Own.rd O1 icell_len)
      clear O1 c0 c1 c2 c3 c4 c5 c6 c7
      go_wp2_with fail
      refine (impl_areValues_any _ x.nums _ R1.out (by simp [Cls.nums])).mono ?_
      rintro e w2 ⟨rfl, F2⟩
      have E2 := E1.trans F2
      cases hok : inAll 0 1000000000 x.nums
      · have HOK := Lib.hid (show ClsOk x = false from hok)
        have HF := Lib.hid (show cs.all ClsOk = false by rw [hq.out, HST.out, HOK.out]; rfl)
        go_wp2
        go_ret
        exact ⟨by rw [show rawB n cs fs d = false by simp [rawB, HF.out]]; rfl, ((Ext.refl w).alloc _).trans E2⟩
      · have HOK := Lib.hid (show ClsOk x = true from hok)
        go_wp2
        go_roundw
        case rel => exact ⟨k + 1, by omega, by go_num, by have := hq.out; rw [HST.out, HOK.out] at this; show _ = _; simpa using this, E2⟩
        case measure => simp [intOf]; omega
    · obtain rfl : k = cs.length := by omega
      have HALLCls := Lib.hid (show cs.all ClsOk = true by rw [hq.out, List.drop_length]; rfl)
      clear hq
      (have hcb := Ext.cells hx; have hzb := Ext.frozens hx; have hsb := Ext.lts hx; have hsb0 : w.heap.size < wr.heap.size := Ext.lts hx _ (by simp <;> omega); have hcb0 : ∀ o, wr.cell? ⟨w.heap.size, o, none⟩ = _ := fun o => Ext.cells hx _ o (by simp <;> omega); have hzb0 : ∀ o, wr.frozen? ⟨w.heap.size, o, none⟩ = _ := fun o => Ext.frozens hx _ o (by simp <;> omega); try clear hcb hzb)
      have hxx := hx
      go_wp2
      clear hcb0 hzb0 hsb0
      go_loopw [44] (fun t wr => ∃ k : Nat, k ≤ fs.length ∧ t = .int .i64 (k : Int) ∧ Hid (fs.all FltOk = (fs.drop k).all FltOk) ∧ Ext (w.alloc (.cells #[.string n, .slice CA cs.length cc, .slice FA fs.length fc, .int .i64 d] 31)) wr) (fun t _ => fs.length - (intOf t).toNat)
      case atStart => exact ⟨0, Nat.zero_le _, rfl, rfl, by assumption⟩
      case round =>
        obtain ⟨k, hk, rfl, hq, hx⟩ := hrel
        by_cases hlt : k < fs.length
        · have hxw := Ext.trans ((Ext.refl w).alloc (.cells #[.string n, .slice CA cs.length cc, .slice FA fs.length fc, .int .i64 d] 31)) hx
          obtain ⟨b, o, rfl, hb, hcell⟩ := HRFlt.out k fs[k] (List.getElem?_eq_getElem hlt)
          have hst := all_step FltOk fs k hlt
          generalize fs[k] = x at hcell hst
          have HST := Lib.hid hst
          have c0 : wr.cell? ⟨b, o + k * 5, none⟩ = some (.int .i64 x.prio) := by rw [Ext.cell hxw hb]; exact hcell 0 _ rfl
          have c1 : wr.cell? ⟨b, o + k * 5 + 1, none⟩ = some (.int .i64 x.field) := by rw [Ext.cell hxw hb]; exact hcell 1 _ rfl
          have c2 : wr.cell? ⟨b, o + k * 5 + 2, none⟩ = some (.int .i64 x.mask) := by rw [Ext.cell hxw hb]; exact hcell 2 _ rfl
          have c3 : wr.cell? ⟨b, o + k * 5 + 3, none⟩ = some (.int .i64 x.value) := by rw [Ext.cell hxw hb]; exact hcell 3 _ rfl
          have c4 : wr.cell? ⟨b, o + k * 5 + 4, none⟩ = some (.int .i64 x.target) := by rw [Ext.cell hxw hb]; exact hcell 4 _ rfl
          clear hcell hst
          go_wp2_with fail
          refine (impl_filterNumbers_any x _).mono ?_
          rintro e w1 ⟨v1, rfl, O1, F1⟩
          have E1 := (hx.alloc _).trans F1
          have R1 := Lib.hid (Own.rd O1 icell_len)
          clear O1 c0 c1 c2 c3 c4
          go_wp2_with fail
          refine (impl_areValues_any _ x.nums _ R1.out (by simp [Flt.nums])).mono ?_
          rintro e w2 ⟨rfl, F2⟩
          have E2 := E1.trans F2
          cases hok : inAll 0 1000000000 x.nums
          · have HOK := Lib.hid (show FltOk x = false from hok)
            have HF := Lib.hid (show fs.all FltOk = false by rw [hq.out, HST.out, HOK.out]; rfl)
            go_wp2
            go_ret
            exact ⟨by rw [show rawB n cs fs d = false by simp [rawB, HF.out]]; rfl, ((Ext.refl w).alloc _).trans E2⟩
          · have HOK := Lib.hid (show FltOk x = true from hok)
            go_wp2
            go_roundw
            case rel => exact ⟨k + 1, by omega, by go_num, by have := hq.out; rw [HST.out, HOK.out] at this; show _ = _; simpa using this, E2⟩
            case measure => simp [intOf]; omega
        · obtain rfl : k = fs.length := by omega
          have HALLFlt := Lib.hid (show fs.all FltOk = true by rw [hq.out, List.drop_length]; rfl)
          clear hq
          have HV := Lib.hid (show rawB n cs fs d = true by simp [rawB, h1, h2, h3, h4, HALLCls.out, HALLFlt.out])
          go_wp2
          go_ret
          exact ⟨by rw [HV.out]; rfl, Ext.trans ((Ext.refl w).alloc _) hx⟩
theorem spec_enRaw_any (n : ByteArray) (cv fv : Value) (d : Int) (cs : List Cls) (fs : List Flt) (w : World) (hc : RdC w cv cs) (hf : RdF w fv fs) (hns : n.size ≤ 1048576) (hcl : cs.length ≤ 1048576) (hfl : fs.length ≤ 1048576) :
    Calls Tryd.prog 24 #[cfgV n cv fv d] w fun e w' => e = .returned (.bool (rawB n cs fs d)) ∧ Ext w w' := by
  obtain ⟨CA, cc, rfl, hcc, hrc⟩ := hc
  obtain ⟨FA, fc, rfl, hfc, hrf⟩ := hf
  have HRCls := Lib.hid hrc
  have HRFlt := Lib.hid hrf
  clear hrc hrf
  have E0 := Ext.refl (w.alloc (.cells #[.string n, .slice CA cs.length cc, .slice FA fs.length fc, .int .i64 d] 31))
  go_enter Tryd.func24, Tryd.ntmps24
  go_wp2
  go_loopw [10] (fun t wr => ∃ k : Nat, k ≤ cs.length ∧ t = .int .i64 (k : Int) ∧ Hid (cs.all ClsOk = (cs.drop k).all ClsOk) ∧ Ext (w.alloc (.cells #[.string n, .slice CA cs.length cc, .slice FA fs.length fc, .int .i64 d] 31)) wr) (fun t _ => cs.length - (intOf t).toNat)
  case atStart => exact ⟨0, Nat.zero_le _, rfl, rfl, by assumption⟩
  case round =>
    obtain ⟨k, hk, rfl, hq, hx⟩ := hrel
    by_cases hlt : k < cs.length
    · have hxw := Ext.trans ((Ext.refl w).alloc (.cells #[.string n, .slice CA cs.length cc, .slice FA fs.length fc, .int .i64 d] 31)) hx
      obtain ⟨b, o, rfl, hb, hcell⟩ := HRCls.out k cs[k] (List.getElem?_eq_getElem hlt)
      have hst := all_step ClsOk cs k hlt
      generalize cs[k] = x at hcell hst
      have HST := Lib.hid hst
      have c0 : wr.cell? ⟨b, o + k * 8, none⟩ = some (.int .i64 x.id) := by rw [Ext.cell hxw hb]; exact hcell 0 _ rfl
      have c1 : wr.cell? ⟨b, o + k * 8 + 1, none⟩ = some (.int .i64 x.parent) := by rw [Ext.cell hxw hb]; exact hcell 1 _ rfl
      have c2 : wr.cell? ⟨b, o + k * 8 + 2, none⟩ = some (.int .i64 x.rate) := by rw [Ext.cell hxw hb]; exact hcell 2 _ rfl
      have c3 : wr.cell? ⟨b, o + k * 8 + 3, none⟩ = some (.int .i64 x.ceil) := by rw [Ext.cell hxw hb]; exact hcell 3 _ rfl
      have c4 : wr.cell? ⟨b, o + k * 8 + 4, none⟩ = some (.int .i64 x.burst) := by rw [Ext.cell hxw hb]; exact hcell 4 _ rfl
      have c5 : wr.cell? ⟨b, o + k * 8 + 5, none⟩ = some (.int .i64 x.cburst) := by rw [Ext.cell hxw hb]; exact hcell 5 _ rfl
      have c6 : wr.cell? ⟨b, o + k * 8 + 6, none⟩ = some (.int .i64 x.prio) := by rw [Ext.cell hxw hb]; exact hcell 6 _ rfl
      have c7 : wr.cell? ⟨b, o + k * 8 + 7, none⟩ = some (.int .i64 x.limit) := by rw [Ext.cell hxw hb]; exact hcell 7 _ rfl
      clear hcell hst
      go_wp2_with fail
      refine (spec_enNumbers_any x _).mono ?_
      rintro e w1 ⟨v1, rfl, O1, F1⟩
      have E1 := (hx.alloc _).trans F1
      have R1 := Lib.hid (Own.rd O1 icell_len)
      clear O1 c0 c1 c2 c3 c4 c5 c6 c7
      go_wp2_with fail
      refine (spec_enValues_any _ x.nums _ R1.out (by simp [Cls.nums])).mono ?_
      rintro e w2 ⟨rfl, F2⟩
      have E2 := E1.trans F2
      cases hok : inAll 0 1000000000 x.nums
      · have HOK := Lib.hid (show ClsOk x = false from hok)
        have HF := Lib.hid (show cs.all ClsOk = false by rw [hq.out, HST.out, HOK.out]; rfl)
        go_wp2
        go_ret
        exact ⟨by rw [show rawB n cs fs d = false by simp [rawB, HF.out]]; rfl, ((Ext.refl w).alloc _).trans E2⟩
      · have HOK := Lib.hid (show ClsOk x = true from hok)
        go_wp2
        go_roundw
        case rel => exact ⟨k + 1, by omega, by go_num, by have := hq.out; rw [HST.out, HOK.out] at this; show _ = _; simpa using this, E2⟩
        case measure => simp [intOf]; omega
    · obtain rfl : k = cs.length := by omega
      have HALLCls := Lib.hid (show cs.all ClsOk = true by rw [hq.out, List.drop_length]; rfl)
      clear hq
      (have hcb := Ext.cells hx; have hzb := Ext.frozens hx; have hsb := Ext.lts hx; have hsb0 : w.heap.size < wr.heap.size := Ext.lts hx _ (by simp <;> omega); have hcb0 : ∀ o, wr.cell? ⟨w.heap.size, o, none⟩ = _ := fun o => Ext.cells hx _ o (by simp <;> omega); have hzb0 : ∀ o, wr.frozen? ⟨w.heap.size, o, none⟩ = _ := fun o => Ext.frozens hx _ o (by simp <;> omega); try clear hcb hzb)
      have hxx := hx
      go_wp2
      clear hcb0 hzb0 hsb0
      go_loopw [22] (fun t wr => ∃ k : Nat, k ≤ fs.length ∧ t = .int .i64 (k : Int) ∧ Hid (fs.all FltOk = (fs.drop k).all FltOk) ∧ Ext (w.alloc (.cells #[.string n, .slice CA cs.length cc, .slice FA fs.length fc, .int .i64 d] 31)) wr) (fun t _ => fs.length - (intOf t).toNat)
      case atStart => exact ⟨0, Nat.zero_le _, rfl, rfl, by assumption⟩
      case round =>
        obtain ⟨k, hk, rfl, hq, hx⟩ := hrel
        by_cases hlt : k < fs.length
        · have hxw := Ext.trans ((Ext.refl w).alloc (.cells #[.string n, .slice CA cs.length cc, .slice FA fs.length fc, .int .i64 d] 31)) hx
          obtain ⟨b, o, rfl, hb, hcell⟩ := HRFlt.out k fs[k] (List.getElem?_eq_getElem hlt)
          have hst := all_step FltOk fs k hlt
          generalize fs[k] = x at hcell hst
          have HST := Lib.hid hst
          have c0 : wr.cell? ⟨b, o + k * 5, none⟩ = some (.int .i64 x.prio) := by rw [Ext.cell hxw hb]; exact hcell 0 _ rfl
          have c1 : wr.cell? ⟨b, o + k * 5 + 1, none⟩ = some (.int .i64 x.field) := by rw [Ext.cell hxw hb]; exact hcell 1 _ rfl
          have c2 : wr.cell? ⟨b, o + k * 5 + 2, none⟩ = some (.int .i64 x.mask) := by rw [Ext.cell hxw hb]; exact hcell 2 _ rfl
          have c3 : wr.cell? ⟨b, o + k * 5 + 3, none⟩ = some (.int .i64 x.value) := by rw [Ext.cell hxw hb]; exact hcell 3 _ rfl
          have c4 : wr.cell? ⟨b, o + k * 5 + 4, none⟩ = some (.int .i64 x.target) := by rw [Ext.cell hxw hb]; exact hcell 4 _ rfl
          clear hcell hst
          go_wp2_with fail
          refine (spec_enFilter_any x _).mono ?_
          rintro e w1 ⟨v1, rfl, O1, F1⟩
          have E1 := (hx.alloc _).trans F1
          have R1 := Lib.hid (Own.rd O1 icell_len)
          clear O1 c0 c1 c2 c3 c4
          go_wp2_with fail
          refine (spec_enValues_any _ x.nums _ R1.out (by simp [Flt.nums])).mono ?_
          rintro e w2 ⟨rfl, F2⟩
          have E2 := E1.trans F2
          cases hok : inAll 0 1000000000 x.nums
          · have HOK := Lib.hid (show FltOk x = false from hok)
            have HF := Lib.hid (show fs.all FltOk = false by rw [hq.out, HST.out, HOK.out]; rfl)
            go_wp2
            go_ret
            exact ⟨by rw [show rawB n cs fs d = false by simp [rawB, HF.out]]; rfl, ((Ext.refl w).alloc _).trans E2⟩
          · have HOK := Lib.hid (show FltOk x = true from hok)
            go_wp2
            go_roundw
            case rel => exact ⟨k + 1, by omega, by go_num, by have := hq.out; rw [HST.out, HOK.out] at this; show _ = _; simpa using this, E2⟩
            case measure => simp [intOf]; omega
        · obtain rfl : k = fs.length := by omega
          have HALLFlt := Lib.hid (show fs.all FltOk = true by rw [hq.out, List.drop_length]; rfl)
          clear hq
          (have hcc := Ext.cells hx; have hzc := Ext.frozens hx; have hsc := Ext.lts hx; have hsc0 : w.heap.size < wr.heap.size := Ext.lts hx _ (by simp <;> omega); have hcc0 : ∀ o, wr.cell? ⟨w.heap.size, o, none⟩ = _ := fun o => Ext.cells hx _ o (by simp <;> omega); have hzc0 : ∀ o, wr.frozen? ⟨w.heap.size, o, none⟩ = _ := fun o => Ext.frozens hx _ o (by simp <;> omega); try clear hcc hzc)
          have HX := Lib.hid hx
          have HV := Lib.hid (show rawB n cs fs d = (nameB n && decide (cs.length ≤ 24) && decide (fs.length ≤ 16) && inR d 0 1000000000) by simp [rawB, HALLCls.out, HALLFlt.out])
          go_wp2_with fail
          refine (spec_cfName_any n _ hns).mono ?_
          rintro e w3 ⟨rfl, F3⟩
          have E3 := HX.out.trans F3
          clear hcc0 hzc0 hsc0
          (have hcd := Ext.cells E3; have hzd := Ext.frozens E3; have hsd := Ext.lts E3; have hsd0 : w.heap.size < w3.heap.size := Ext.lts E3 _ (by simp <;> omega); have hcd0 : ∀ o, w3.cell? ⟨w.heap.size, o, none⟩ = _ := fun o => Ext.cells E3 _ o (by simp <;> omega); have hzd0 : ∀ o, w3.frozen? ⟨w.heap.size, o, none⟩ = _ := fun o => Ext.frozens E3 _ o (by simp <;> omega); try clear hcd hzd)
          cases h1 : nameB n
          · go_wp2
            go_ret
            exact ⟨by rw [HV.out, h1]; rfl, Ext.trans ((Ext.refl w).alloc _) E3⟩
          by_cases h2 : cs.length ≤ 24
          · by_cases h3 : fs.length ≤ 16
            · go_wp2_with (go_at_call 47; refine (spec_nuValue_any _ _ ).mono ?_; rintro e w' ⟨rfl, rfl⟩)
              go_ret
              exact ⟨by rw [HV.out, h1]; simp [h2, h3], Ext.trans ((Ext.refl w).alloc _) E3⟩
            · go_wp2
              go_ret
              exact ⟨by rw [HV.out, h1]; simp [h2, h3], Ext.trans ((Ext.refl w).alloc _) E3⟩
          · go_wp2
            go_ret
            exact ⟨by rw [HV.out, h1]; simp [h2], Ext.trans ((Ext.refl w).alloc _) E3⟩
theorem spec_IsStorable_any (n : ByteArray) (cv fv : Value) (d : Int) (cs : List Cls) (fs : List Flt) (w : World) (hc : RdC w cv cs) (hf : RdF w fv fs) (hns : n.size ≤ 1048576) (hcl : cs.length ≤ 1048576) (hfl : fs.length ≤ 1048576) :
    Calls Tryd.prog 8 #[cfgV n cv fv d] w fun e w' => e = .returned (.bool (rawB n cs fs d)) ∧ Ext w w' := by
  have HC := Lib.hid hc
  have HF := Lib.hid hf
  clear hc hf
  have E0 := (Ext.refl w).alloc (.cells #[.string n, cv, fv, .int .i64 d] 31)
  go_enter Tryd.func8, Tryd.ntmps8
  go_wp2_with fail
  refine (spec_enRaw_any n _ _ d cs fs _ (HC.out.ext E0) (HF.out.ext E0) hns hcl hfl).mono ?_
  rintro e w1 ⟨rfl, F1⟩
  go_wp2
  go_ret
  exact ⟨rfl, E0.trans F1⟩
end Go.Proofs.YtifhjhgccknndaaDoor
