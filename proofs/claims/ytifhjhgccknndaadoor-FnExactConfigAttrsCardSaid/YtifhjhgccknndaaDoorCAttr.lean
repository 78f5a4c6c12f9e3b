/- Contracts: the attributes of a configuration. Printed by wip/tools/gen_cattr.py. -/
import Derived.Test.YtifhjhgccknndaaDoorStor
import Derived.Test.YtifhjhgccknndaaDoorMem2
import Derived.Deep.RegionWith
namespace Go.Proofs.YtifhjhgccknndaaDoor
open Go.RowKit
set_option maxHeartbeats 4000000
set_option linter.unusedSimpArgs false
set_option linter.unusedVariables false

def clsItems (x : Cls) : List Att := items 4 x.nums
def fltItems (x : Flt) : List Att := items 5 x.nums
/-- The first three attributes of a configuration. -/
def catHd (n : ByteArray) (d : Int) : List Att := [⟨1, 1, true, ⟨#[]⟩⟩, ⟨2, 2, false, n⟩, ⟨2, 3, false, numBytes d⟩]
def cat (n : ByteArray) (cs : List Cls) (fs : List Flt) (d : Int) : List Att := catHd n d ++ cs.flatMap clsItems ++ fs.flatMap fltItems
theorem flat_cls_len (l : List Cls) : (l.flatMap clsItems).length = l.length * 9 := by
  induction l with
  | nil => rfl
  | cons x l ih => rw [List.flatMap_cons, List.length_append, ih, List.length_cons, clsItems, items_len]; simp [Cls.nums]; omega
theorem flat_flt_len (l : List Flt) : (l.flatMap fltItems).length = l.length * 6 := by
  induction l with
  | nil => rfl
  | cons x l ih => rw [List.flatMap_cons, List.length_append, ih, List.length_cons, fltItems, items_len]; simp [Flt.nums]; omega
theorem cat_len (cs : List Cls) (fs : List Flt) (n : ByteArray) (d : Int) (k : Nat) : (catHd n d ++ (cs.take k).flatMap clsItems).length ≤ 3 + cs.length * 9 ∧ (catHd n d ++ cs.flatMap clsItems ++ (fs.take k).flatMap fltItems).length ≤ 3 + cs.length * 9 + fs.length * 6 := by
  simp only [List.length_append, flat_cls_len, flat_flt_len, List.length_take]
  have h : (catHd n d).length = 3 := rfl
  rw [h]
  constructor
  · have := Nat.mul_le_mul_right 9 (Nat.min_le_right k cs.length); omega
  · have := Nat.mul_le_mul_right 6 (Nat.min_le_right k fs.length); omega
theorem rawB_parts {n : ByteArray} {cs : List Cls} {fs : List Flt} {d : Int} (h : rawB n cs fs d = true) : nameB n = true ∧ cs.length ≤ 24 ∧ fs.length ≤ 16 ∧ (0 ≤ d ∧ d ≤ 1000000000) ∧ (∀ x ∈ cs, inAll 0 1000000000 x.nums = true) ∧ (∀ x ∈ fs, inAll 0 1000000000 x.nums = true) := by
  simp only [rawB, Bool.and_eq_true, decide_eq_true_eq, inR_iff, List.all_eq_true] at h
  obtain ⟨⟨⟨⟨⟨h1, h2⟩, h3⟩, h4⟩, h5⟩, h6⟩ := h
  exact ⟨h1, h2, h3, h4, h5, h6⟩

theorem appA {ops : Array Oper} {rest : List Oper} {o : Oper} {a : Act} {Q : Exit → Act → World → Prop} {w wr : World} {bs : Nat} {v y : Value} {l ys : List Att} {s x : Operand} (hbs : w.heap.size = bs) (hown : Own wr bs 63 4 Att.cells v l) (hsrc : Src wr 4 Att.cells y ys) (hn : l.length + ys.length ≤ 100000000) (hE : Ext w wr)
    (hgd : o.guard = none) (ho : o.op = .call { callee := .builtin .append, args := #[s, x], argTypes := #[35, 35] })
    (hs : a.eval s = v) (hx : a.eval x = y)
    (h : ∀ v' w', Own w' bs 63 4 Att.cells v' (l ++ ys) → Ext w w' → wpList Tryd.prog ops Q rest (a.put o.dst v') w') : wpList Tryd.prog ops Q (o :: rest) a wr := by
  subst hbs
  obtain ⟨i0, ii0, ii1, ii2, ii3⟩ := info_parts info_Attr
  exact own_app_src Tryd.underlying35 ii0 ii1 ii2 ii3 rfl (by omega) (by omega) Att.len (fun x u hu => by simp [Att.cells] at hu; rcases hu with rfl | rfl | rfl | rfl <;> rfl) w wr hgd s x ho v y l ys hs hx hsrc hown hn hE h

theorem spec_enAttrs_any (n : ByteArray) (cv fv : Value) (d : Int) (cs : List Cls) (fs : List Flt) (w : World) (hc : RdC w cv cs) (hf : RdF w fv fs) (hr : rawB n cs fs d = true) :
    Calls Tryd.prog 34 #[cfgV n cv fv d] w fun e w' => ∃ u, e = .returned u ∧ Own w' w.heap.size 63 4 Att.cells u (cat n cs fs d) ∧ Ext w w' := by
  obtain ⟨_, hcl, hfl, ⟨hd0, hd1⟩, hmc, hmf⟩ := rawB_parts hr
  obtain ⟨CA, cc, rfl, hcc, hrc⟩ := hc
  obtain ⟨FA, fc, rfl, hfc, hrf⟩ := hf
  have HRCls := Lib.hid hrc
  have HRFlt := Lib.hid hrf
  have HMCls := Lib.hid hmc
  have HMFlt := Lib.hid hmf
  clear hrc hrf hr hmc hmf
  have B1 := Lib.hid (Box.new w n (.slice CA cs.length cc) (.slice FA fs.length fc) d 31)
  go_enter Tryd.func34, Tryd.ntmps34
  go_wp2_with fail
  go_region_with ((go_at_call 54; refine (spec_enData_any _ _ (by omega) (by omega)).mono ?_; rintro e w2 ⟨rfl, F2⟩; obtain ⟨r0, r1, r2, r3, r4⟩ := B1.out.drew.ext F2))
  all_goals
    have E2 := ((Ext.refl (w.alloc (.cells #[.string n, .slice CA cs.length cc, .slice FA fs.length fc, .int .i64 d] 31))).drew.trans F2).alloc (.cells #[.int .i64 1, .int .i64 1, .bool true, .string ⟨#[]⟩, .int .i64 2, .int .i64 2, .bool false, .string n, .int .i64 2, .int .i64 3, .bool false, .string (numBytes d)] 63)
    have HST := Lib.hid (show Own _ (w.heap.size + 1) 63 4 Att.cells _ (catHd n d) from World.ownsRow_lit (base := w.heap.size + 1) (e := 63) (size := 4) w2 #[.int .i64 1, .int .i64 1, .bool true, .string ⟨#[]⟩, .int .i64 2, .int .i64 2, .bool false, .string n, .int .i64 2, .int .i64 3, .bool false, .string (numBytes d)] 3 (by have := Ext.size F2; simp at this; omega) (by unfold maxLen; omega) rfl)
    go_wp2
    clear r0 r1 r2 r3 r4
    go_loopw [20, 3] (fun t s wr => ∃ k : Nat, k ≤ cs.length ∧ t = .int .i64 (k : Int) ∧ Own wr (w.heap.size + 1) 63 4 Att.cells s (catHd n d ++ (cs.take k).flatMap clsItems) ∧ Ext (w.alloc (.cells #[.string n, .slice CA cs.length cc, .slice FA fs.length fc, .int .i64 d] 31)) wr) (fun t _ _ => cs.length - (intOf t).toNat)
    case atStart => exact ⟨0, Nat.zero_le _, rfl, by simpa using HST.out, by assumption⟩
    case round =>
      obtain ⟨k, hk, rfl, hown, hx⟩ := hrel
      have HO := Lib.hid hown
      have hxw := Ext.trans ((Ext.refl w).alloc (.cells #[.string n, .slice CA cs.length cc, .slice FA fs.length fc, .int .i64 d] 31)) hx
      clear hown
      by_cases hlt : k < cs.length
      · obtain ⟨b, o, rfl, hb, hcell⟩ := HRCls.out k cs[k] (List.getElem?_eq_getElem hlt)
        have hok := HMCls.out cs[k] (List.getElem_mem hlt)
        have htk := List.take_succ_eq_append_getElem hlt
        generalize cs[k] = x at hcell hok htk
        have HTK := Lib.hid htk
        have HOK := Lib.hid hok
        have c0 : wr.cell? ⟨b, o + k * 8, none⟩ = some (.int .i64 x.id) := by rw [Ext.cell hxw hb]; exact hcell 0 _ rfl
        have c1 : wr.cell? ⟨b, o + k * 8 + 1, none⟩ = some (.int .i64 x.parent) := by rw [Ext.cell hxw hb]; exact hcell 1 _ rfl
        have c2 : wr.cell? ⟨b, o + k * 8 + 2, none⟩ = some (.int .i64 x.rate) := by rw [Ext.cell hxw hb]; exact hcell 2 _ rfl
        have c3 : wr.cell? ⟨b, o + k * 8 + 3, none⟩ = some (.int .i64 x.ceil) := by rw [Ext.cell hxw hb]; exact hcell 3 _ rfl
        have c4 : wr.cell? ⟨b, o + k * 8 + 4, none⟩ = some (.int .i64 x.burst) := by rw [Ext.cell hxw hb]; exact hcell 4 _ rfl
        have c5 : wr.cell? ⟨b, o + k * 8 + 5, none⟩ = some (.int .i64 x.cburst) := by rw [Ext.cell hxw hb]; exact hcell 5 _ rfl
        have c6 : wr.cell? ⟨b, o + k * 8 + 6, none⟩ = some (.int .i64 x.prio) := by rw [Ext.cell hxw hb]; exact hcell 6 _ rfl
        have c7 : wr.cell? ⟨b, o + k * 8 + 7, none⟩ = some (.int .i64 x.limit) := by rw [Ext.cell hxw hb]; exact hcell 7 _ rfl
        clear hcell htk hok
        have HLN := Lib.hid (show (catHd n d ++ (cs.take k).flatMap clsItems).length + (items 4 x.nums).length ≤ 100000000 by rw [items_len]; have := cat_len cs fs n d k; simp [Cls.nums] at *; omega)
        go_wp2_with fail
        refine (spec_enNumbers_any x _).mono ?_
        rintro e w1 ⟨v1, rfl, O1, F1⟩
        have E1 := (hx.alloc _).trans F1
        have G1 := ((Ext.refl wr).alloc _).trans F1
        have R1 := Lib.hid (Own.rd O1 icell_len)
        clear O1 c0 c1 c2 c3 c4 c5 c6 c7
        go_wp2_with fail
        refine (spec_enItem_any 4 _ x.nums _ R1.out (by simp [Cls.nums]) HOK.out).mono ?_
        rintro e w2 ⟨v2, rfl, O2, F2⟩
        have E2 := E1.trans F2
        have S2 := Lib.hid (Own.src O2 Att.len)
        have HO2 := Lib.hid (Own.ext HO.out (G1.trans F2))
        clear O2
        go_wp2_with (at_builtin; refine appA (by simp) HO2.out S2.out HLN.out E2 rfl rfl rfl rfl ?_; intro v3 w3 hown3 E3)
        have HO3 := Lib.hid hown3
        clear hown3
        go_wp2
        go_roundw
        case rel => exact ⟨k + 1, by omega, by go_num, by rw [HTK.out, List.flatMap_append]; have := HO3.out; simpa [clsItems, fltItems] using this, E3⟩
        case measure => simp [intOf]; omega
      · obtain rfl : k = cs.length := by omega
        (have hcb := Ext.cells hx; have hzb := Ext.frozens hx; have hsb := Ext.lts hx; have hsb0 : w.heap.size < wr.heap.size := Ext.lts hx _ (by simp <;> omega); have hcb0 : ∀ o, wr.cell? ⟨w.heap.size, o, none⟩ = _ := fun o => Ext.cells hx _ o (by simp <;> omega); have hzb0 : ∀ o, wr.frozen? ⟨w.heap.size, o, none⟩ = _ := fun o => Ext.frozens hx _ o (by simp <;> omega); try clear hcb hzb)
        have hxx := hx
        have HST := Lib.hid (show Own wr (w.heap.size + 1) 63 4 Att.cells _ (catHd n d ++ cs.flatMap clsItems) by have := HO.out; rwa [List.take_length] at this)
        go_wp2
        clear hcb0 hzb0 hsb0
        go_loopw [33, 3] (fun t s wr => ∃ k : Nat, k ≤ fs.length ∧ t = .int .i64 (k : Int) ∧ Own wr (w.heap.size + 1) 63 4 Att.cells s (catHd n d ++ cs.flatMap clsItems ++ (fs.take k).flatMap fltItems) ∧ Ext (w.alloc (.cells #[.string n, .slice CA cs.length cc, .slice FA fs.length fc, .int .i64 d] 31)) wr) (fun t _ _ => fs.length - (intOf t).toNat)
        case atStart => exact ⟨0, Nat.zero_le _, rfl, by simpa using HST.out, by assumption⟩
        case round =>
          obtain ⟨k, hk, rfl, hown, hx⟩ := hrel
          have HO := Lib.hid hown
          have hxw := Ext.trans ((Ext.refl w).alloc (.cells #[.string n, .slice CA cs.length cc, .slice FA fs.length fc, .int .i64 d] 31)) hx
          clear hown
          by_cases hlt : k < fs.length
          · obtain ⟨b, o, rfl, hb, hcell⟩ := HRFlt.out k fs[k] (List.getElem?_eq_getElem hlt)
            have hok := HMFlt.out fs[k] (List.getElem_mem hlt)
            have htk := List.take_succ_eq_append_getElem hlt
            generalize fs[k] = x at hcell hok htk
            have HTK := Lib.hid htk
            have HOK := Lib.hid hok
            have c0 : wr.cell? ⟨b, o + k * 5, none⟩ = some (.int .i64 x.prio) := by rw [Ext.cell hxw hb]; exact hcell 0 _ rfl
            have c1 : wr.cell? ⟨b, o + k * 5 + 1, none⟩ = some (.int .i64 x.field) := by rw [Ext.cell hxw hb]; exact hcell 1 _ rfl
            have c2 : wr.cell? ⟨b, o + k * 5 + 2, none⟩ = some (.int .i64 x.mask) := by rw [Ext.cell hxw hb]; exact hcell 2 _ rfl
            have c3 : wr.cell? ⟨b, o + k * 5 + 3, none⟩ = some (.int .i64 x.value) := by rw [Ext.cell hxw hb]; exact hcell 3 _ rfl
            have c4 : wr.cell? ⟨b, o + k * 5 + 4, none⟩ = some (.int .i64 x.target) := by rw [Ext.cell hxw hb]; exact hcell 4 _ rfl
            clear hcell htk hok
            have HLN := Lib.hid (show (catHd n d ++ cs.flatMap clsItems ++ (fs.take k).flatMap fltItems).length + (items 5 x.nums).length ≤ 100000000 by rw [items_len]; have := cat_len cs fs n d k; simp [Flt.nums] at *; omega)
            go_wp2_with fail
            refine (spec_enFilter_any x _).mono ?_
            rintro e w1 ⟨v1, rfl, O1, F1⟩
            have E1 := (hx.alloc _).trans F1
            have G1 := ((Ext.refl wr).alloc _).trans F1
            have R1 := Lib.hid (Own.rd O1 icell_len)
            clear O1 c0 c1 c2 c3 c4
            go_wp2_with fail
            refine (spec_enItem_any 5 _ x.nums _ R1.out (by simp [Flt.nums]) HOK.out).mono ?_
            rintro e w2 ⟨v2, rfl, O2, F2⟩
            have E2 := E1.trans F2
            have S2 := Lib.hid (Own.src O2 Att.len)
            have HO2 := Lib.hid (Own.ext HO.out (G1.trans F2))
            clear O2
            go_wp2_with (at_builtin; refine appA (by simp) HO2.out S2.out HLN.out E2 rfl rfl rfl rfl ?_; intro v3 w3 hown3 E3)
            have HO3 := Lib.hid hown3
            clear hown3
            go_wp2
            go_roundw
            case rel => exact ⟨k + 1, by omega, by go_num, by rw [HTK.out, List.flatMap_append]; have := HO3.out; simpa [clsItems, fltItems] using this, E3⟩
            case measure => simp [intOf]; omega
          · obtain rfl : k = fs.length := by omega
            go_wp2
            go_ret
            exact ⟨_, rfl, by unfold cat; have := HO.out; rw [List.take_length] at this; exact Own.mono this (by omega), Ext.trans ((Ext.refl w).alloc _) hx⟩

def catV (n : ByteArray) (cs : List Cls) (fs : List Flt) (d : Int) : List Att := if rawB n cs fs d then cat n cs fs d else []
theorem spec_ConfigAttrs_any (n : ByteArray) (cv fv : Value) (d : Int) (cs : List Cls) (fs : List Flt) (w : World) (hk : Keys w) (hc : RdC w cv cs) (hf : RdF w fv fs) (hz : n.size + cs.length + fs.length ≤ 1048576) :
    Calls Tryd.prog 12 #[cfgV n cv fv d] w fun e w' => ∃ u, e = .returned (.tuple #[u, .bool (rawB n cs fs d)]) ∧ Own w' w.heap.size 63 4 Att.cells u (catV n cs fs d) ∧ Ext w w' := by
  have HC := Lib.hid hc
  have HF := Lib.hid hf
  clear hc hf hk
  have E0 := (Ext.refl w).alloc (.cells #[.string n, cv, fv, .int .i64 d] 31)
  go_enter Tryd.func12, Tryd.ntmps12
  go_wp2_with fail
  refine (spec_enRaw_any n _ _ d cs fs _ (HC.out.ext E0) (HF.out.ext E0) (by omega) (by omega) (by omega)).mono ?_
  rintro e w1 ⟨rfl, F1⟩
  have E1 := E0.trans F1
  cases hr : rawB n cs fs d
  · have HV := Lib.hid (show catV n cs fs d = [] by simp [catV, hr])
    go_wp2
    go_ret2
    exact ⟨_, by rw [hr]; rfl, by rw [HV.out]; exact World.ownsRow_nil _ _ _ _, E1⟩
  · have HV := Lib.hid (show catV n cs fs d = cat n cs fs d by simp [catV, hr])
    obtain ⟨q0, q1, q2, q3, _⟩ := (Box.new w n cv fv d 31).ext F1
    go_wp2_with fail
    clear q0 q1 q2 q3
    refine (spec_enAttrs_any n _ _ d cs fs _ (HC.out.ext E1) (HF.out.ext E1) hr).mono ?_
    rintro e w2 ⟨u, rfl, O2, F2⟩
    have HO := Lib.hid O2
    clear O2
    go_wp2
    go_ret2
    exact ⟨_, by rw [hr]; rfl, by rw [HV.out]; exact Own.mono HO.out (Ext.size E1), E1.trans F2⟩

theorem impl_ConfigAttrs_any (n : ByteArray) (cv fv : Value) (d : Int) (cs : List Cls) (fs : List Flt) (w : World) (hk : Keys w) (hc : RdC w cv cs) (hf : RdF w fv fs) (hz : n.size + cs.length + fs.length ≤ 1048576) :
    Calls Tryd.prog 13 #[cfgV n cv fv d] w fun e w' => ∃ u, e = .returned (.tuple #[u, .bool (rawB n cs fs d)]) ∧ Own w' w.heap.size 63 4 Att.cells u (catV n cs fs d) ∧ Ext w w' := by
  have HC := Lib.hid hc
  have HF := Lib.hid hf
  have HK := Lib.hid hk
  obtain ⟨CA, cc, rfl, hcc, hrc⟩ := hc
  obtain ⟨FA, fc, rfl, hfc, hrf⟩ := hf
  have HRCls := Lib.hid hrc
  have HRFlt := Lib.hid hrf
  clear hrc hrf hk
  have E0 := (Ext.refl w).alloc (.cells #[.string n, .slice CA cs.length cc, .slice FA fs.length fc, .int .i64 d] 31)
  go_enter Tryd.func13, Tryd.ntmps13
  go_wp2_with fail
  refine (impl_IsStorable_any n _ _ d cs fs _ (HK.out.ext E0) (HC.out.ext E0) (HF.out.ext E0) (by omega) (by omega)).mono ?_
  rintro e w1 ⟨rfl, F1⟩
  have E1 := E0.trans F1
  cases hr : rawB n cs fs d
  · have HV := Lib.hid (show catV n cs fs d = [] by simp [catV, hr])
    go_wp2
    go_ret2
    exact ⟨_, by rw [hr]; rfl, by rw [HV.out]; exact World.ownsRow_nil _ _ _ _, E1⟩
  have HV := Lib.hid (show catV n cs fs d = cat n cs fs d by simp [catV, hr])
  obtain ⟨_, hcl, hfl, ⟨hd0, hd1⟩, hmc, hmf⟩ := rawB_parts hr
  have HMCls := Lib.hid hmc
  have HMFlt := Lib.hid hmf
  have HRW := Lib.hid hr
  clear hmc hmf hr
  have B1 := Lib.hid ((Box.new w n (.slice CA cs.length cc) (.slice FA fs.length fc) d 31).ext F1)
  obtain ⟨q0, q1, q2, q3, _⟩ := B1.out
  go_wp2_with fail
  go_region_with ((go_at_call 35; refine (impl_numberData_any _ _ (by omega) (by omega)).mono ?_; rintro e w2 ⟨rfl, F2⟩; obtain ⟨r0, r1, r2, r3, r4⟩ := B1.out.drew.ext F2))
  all_goals
    clear q0 q1 q2 q3
    have E2 := (F1.drew.trans F2).alloc (.cells #[.int .i64 1, .int .i64 1, .bool true, .string ⟨#[]⟩, .int .i64 2, .int .i64 2, .bool false, .string n, .int .i64 2, .int .i64 3, .bool false, .string (numBytes d)] 63)
    have HST := Lib.hid (show Own _ (w.heap.size + 1) 63 4 Att.cells _ (catHd n d) from World.ownsRow_lit (base := w.heap.size + 1) (e := 63) (size := 4) w2 #[.int .i64 1, .int .i64 1, .bool true, .string ⟨#[]⟩, .int .i64 2, .int .i64 2, .bool false, .string n, .int .i64 2, .int .i64 3, .bool false, .string (numBytes d)] 3 (by have := Ext.size F2; have := Ext.size F1; simp at *; omega) (by unfold maxLen; omega) rfl)
    go_wp2
    clear r0 r1 r2 r3 r4
    go_loopw [24, 4] (fun t s wr => ∃ k : Nat, k ≤ cs.length ∧ t = .int .i64 (k : Int) ∧ Own wr (w.heap.size + 1) 63 4 Att.cells s (catHd n d ++ (cs.take k).flatMap clsItems) ∧ Ext (w.alloc (.cells #[.string n, .slice CA cs.length cc, .slice FA fs.length fc, .int .i64 d] 31)) wr) (fun t _ _ => cs.length - (intOf t).toNat)
    case atStart => exact ⟨0, Nat.zero_le _, rfl, by simpa using HST.out, by assumption⟩
    case round =>
      obtain ⟨k, hk, rfl, hown, hx⟩ := hrel
      have HO := Lib.hid hown
      have hxw := Ext.trans ((Ext.refl w).alloc (.cells #[.string n, .slice CA cs.length cc, .slice FA fs.length fc, .int .i64 d] 31)) hx
      clear hown
      by_cases hlt : k < cs.length
      · obtain ⟨b, o, rfl, hb, hcell⟩ := HRCls.out k cs[k] (List.getElem?_eq_getElem hlt)
        have hok := HMCls.out cs[k] (List.getElem_mem hlt)
        have htk := List.take_succ_eq_append_getElem hlt
        generalize cs[k] = x at hcell hok htk
        have HTK := Lib.hid htk
        have HOK := Lib.hid hok
        have c0 : wr.cell? ⟨b, o + k * 8, none⟩ = some (.int .i64 x.id) := by rw [Ext.cell hxw hb]; exact hcell 0 _ rfl
        have c1 : wr.cell? ⟨b, o + k * 8 + 1, none⟩ = some (.int .i64 x.parent) := by rw [Ext.cell hxw hb]; exact hcell 1 _ rfl
        have c2 : wr.cell? ⟨b, o + k * 8 + 2, none⟩ = some (.int .i64 x.rate) := by rw [Ext.cell hxw hb]; exact hcell 2 _ rfl
        have c3 : wr.cell? ⟨b, o + k * 8 + 3, none⟩ = some (.int .i64 x.ceil) := by rw [Ext.cell hxw hb]; exact hcell 3 _ rfl
        have c4 : wr.cell? ⟨b, o + k * 8 + 4, none⟩ = some (.int .i64 x.burst) := by rw [Ext.cell hxw hb]; exact hcell 4 _ rfl
        have c5 : wr.cell? ⟨b, o + k * 8 + 5, none⟩ = some (.int .i64 x.cburst) := by rw [Ext.cell hxw hb]; exact hcell 5 _ rfl
        have c6 : wr.cell? ⟨b, o + k * 8 + 6, none⟩ = some (.int .i64 x.prio) := by rw [Ext.cell hxw hb]; exact hcell 6 _ rfl
        have c7 : wr.cell? ⟨b, o + k * 8 + 7, none⟩ = some (.int .i64 x.limit) := by rw [Ext.cell hxw hb]; exact hcell 7 _ rfl
        clear hcell htk hok
        have HLN := Lib.hid (show (catHd n d ++ (cs.take k).flatMap clsItems).length + (items 4 x.nums).length ≤ 100000000 by rw [items_len]; have := cat_len cs fs n d k; simp [Cls.nums] at *; omega)
        go_wp2_with fail
        refine (impl_classNumbers_any x _).mono ?_
        rintro e w1 ⟨v1, rfl, O1, F1⟩
        have E1 := (hx.alloc _).trans F1
        have G1 := ((Ext.refl wr).alloc _).trans F1
        have R1 := Lib.hid (Own.rd O1 icell_len)
        clear O1 c0 c1 c2 c3 c4 c5 c6 c7
        go_wp2_with fail
        refine (impl_partAttrs_any 4 _ x.nums _ R1.out (by simp [Cls.nums]) HOK.out).mono ?_
        rintro e w2 ⟨v2, rfl, O2, F2⟩
        have E2 := E1.trans F2
        have S2 := Lib.hid (Own.src O2 Att.len)
        have HO2 := Lib.hid (Own.ext HO.out (G1.trans F2))
        clear O2
        go_wp2_with (at_builtin; refine appA (by simp) HO2.out S2.out HLN.out E2 rfl rfl rfl rfl ?_; intro v3 w3 hown3 E3)
        have HO3 := Lib.hid hown3
        clear hown3
        go_wp2
        go_roundw
        case rel => exact ⟨k + 1, by omega, by go_num, by rw [HTK.out, List.flatMap_append]; have := HO3.out; simpa [clsItems, fltItems] using this, E3⟩
        case measure => simp [intOf]; omega
      · obtain rfl : k = cs.length := by omega
        (have hcb := Ext.cells hx; have hzb := Ext.frozens hx; have hsb := Ext.lts hx; have hsb0 : w.heap.size < wr.heap.size := Ext.lts hx _ (by simp <;> omega); have hcb0 : ∀ o, wr.cell? ⟨w.heap.size, o, none⟩ = _ := fun o => Ext.cells hx _ o (by simp <;> omega); have hzb0 : ∀ o, wr.frozen? ⟨w.heap.size, o, none⟩ = _ := fun o => Ext.frozens hx _ o (by simp <;> omega); try clear hcb hzb)
        have hxx := hx
        have HST := Lib.hid (show Own wr (w.heap.size + 1) 63 4 Att.cells _ (catHd n d ++ cs.flatMap clsItems) by have := HO.out; rwa [List.take_length] at this)
        go_wp2
        clear hcb0 hzb0 hsb0
        go_loopw [37, 4] (fun t s wr => ∃ k : Nat, k ≤ fs.length ∧ t = .int .i64 (k : Int) ∧ Own wr (w.heap.size + 1) 63 4 Att.cells s (catHd n d ++ cs.flatMap clsItems ++ (fs.take k).flatMap fltItems) ∧ Ext (w.alloc (.cells #[.string n, .slice CA cs.length cc, .slice FA fs.length fc, .int .i64 d] 31)) wr) (fun t _ _ => fs.length - (intOf t).toNat)
        case atStart => exact ⟨0, Nat.zero_le _, rfl, by simpa using HST.out, by assumption⟩
        case round =>
          obtain ⟨k, hk, rfl, hown, hx⟩ := hrel
          have HO := Lib.hid hown
          have hxw := Ext.trans ((Ext.refl w).alloc (.cells #[.string n, .slice CA cs.length cc, .slice FA fs.length fc, .int .i64 d] 31)) hx
          clear hown
          by_cases hlt : k < fs.length
          · obtain ⟨b, o, rfl, hb, hcell⟩ := HRFlt.out k fs[k] (List.getElem?_eq_getElem hlt)
            have hok := HMFlt.out fs[k] (List.getElem_mem hlt)
            have htk := List.take_succ_eq_append_getElem hlt
            generalize fs[k] = x at hcell hok htk
            have HTK := Lib.hid htk
            have HOK := Lib.hid hok
            have c0 : wr.cell? ⟨b, o + k * 5, none⟩ = some (.int .i64 x.prio) := by rw [Ext.cell hxw hb]; exact hcell 0 _ rfl
            have c1 : wr.cell? ⟨b, o + k * 5 + 1, none⟩ = some (.int .i64 x.field) := by rw [Ext.cell hxw hb]; exact hcell 1 _ rfl
            have c2 : wr.cell? ⟨b, o + k * 5 + 2, none⟩ = some (.int .i64 x.mask) := by rw [Ext.cell hxw hb]; exact hcell 2 _ rfl
            have c3 : wr.cell? ⟨b, o + k * 5 + 3, none⟩ = some (.int .i64 x.value) := by rw [Ext.cell hxw hb]; exact hcell 3 _ rfl
            have c4 : wr.cell? ⟨b, o + k * 5 + 4, none⟩ = some (.int .i64 x.target) := by rw [Ext.cell hxw hb]; exact hcell 4 _ rfl
            clear hcell htk hok
            have HLN := Lib.hid (show (catHd n d ++ cs.flatMap clsItems ++ (fs.take k).flatMap fltItems).length + (items 5 x.nums).length ≤ 100000000 by rw [items_len]; have := cat_len cs fs n d k; simp [Flt.nums] at *; omega)
            go_wp2_with fail
            refine (impl_filterNumbers_any x _).mono ?_
            rintro e w1 ⟨v1, rfl, O1, F1⟩
            have E1 := (hx.alloc _).trans F1
            have G1 := ((Ext.refl wr).alloc _).trans F1
            have R1 := Lib.hid (Own.rd O1 icell_len)
            clear O1 c0 c1 c2 c3 c4
            go_wp2_with fail
            refine (impl_partAttrs_any 5 _ x.nums _ R1.out (by simp [Flt.nums]) HOK.out).mono ?_
            rintro e w2 ⟨v2, rfl, O2, F2⟩
            have E2 := E1.trans F2
            have S2 := Lib.hid (Own.src O2 Att.len)
            have HO2 := Lib.hid (Own.ext HO.out (G1.trans F2))
            clear O2
            go_wp2_with (at_builtin; refine appA (by simp) HO2.out S2.out HLN.out E2 rfl rfl rfl rfl ?_; intro v3 w3 hown3 E3)
            have HO3 := Lib.hid hown3
            clear hown3
            go_wp2
            go_roundw
            case rel => exact ⟨k + 1, by omega, by go_num, by rw [HTK.out, List.flatMap_append]; have := HO3.out; simpa [clsItems, fltItems] using this, E3⟩
            case measure => simp [intOf]; omega
          · obtain rfl : k = fs.length := by omega
            go_wp2
            go_ret2
            exact ⟨_, by rw [HRW.out]; rfl, by rw [HV.out]; unfold cat; have := HO.out; rw [List.take_length] at this; exact Own.mono this (by omega), Ext.trans ((Ext.refl w).alloc _) hx⟩
end Go.Proofs.YtifhjhgccknndaaDoor
