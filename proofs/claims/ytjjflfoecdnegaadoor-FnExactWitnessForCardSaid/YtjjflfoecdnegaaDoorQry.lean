/- FindClass, SpareRate, TopOf, IsBelow: contracts of both sides. Printed by wip/tools/gen_qry.py. -/
import Derived.Test.YtjjflfoecdnegaaDoorGood
namespace Go.Proofs.YtjjflfoecdnegaaDoor
open Go.RowKit
set_option maxRecDepth 20000
set_option maxHeartbeats 1000000
set_option linter.unusedSimpArgs false
set_option linter.unusedVariables false

def hasB (n : ByteArray) (cs : List Cls) (fs : List Flt) (d i : Int) : Bool := goodB n cs fs d && inR i 0 ((cs.length : Int) - 1)
theorem has_parts {n : ByteArray} {cs : List Cls} {fs : List Flt} {d i : Int} (h : hasB n cs fs d i = true) : goodB n cs fs d = true ∧ ∃ j : Nat, i = j ∧ j < cs.length := by
  simp only [hasB, Bool.and_eq_true, inR_iff] at h
  obtain ⟨h1, h2, h3⟩ := h
  obtain ⟨j, rfl⟩ := Int.eq_ofNat_of_zero_le h2
  exact ⟨h1, j, rfl, by omega⟩
theorem impl_isClassOf_any (n : ByteArray) (cv fv : Value) (d i : Int) (cs : List Cls) (fs : List Flt) (w : World) (hk : Keys w) (hc : RdC w cv cs) (hf : RdF w fv fs) (hz : n.size + cs.length + fs.length ≤ 1048576) :
    Calls Tryd.prog 35 #[cfgV n cv fv d, .int .i64 i] w fun e w' => e = .returned (.bool (hasB n cs fs d i)) ∧ Ext w w' := by
  have HCC := Lib.hid hc
  obtain ⟨CA, cc, rfl, hcc, _⟩ := hc
  have hc := HCC.out
  have HC := Lib.hid hc
  have HF := Lib.hid hf
  have HK := Lib.hid hk
  clear hc hf hk
  have E0 := (Ext.refl w).alloc (.cells #[.string n, .slice CA cs.length cc, fv, .int .i64 d] 33)
  have B0 := Lib.hid (Box.new w n (.slice CA cs.length cc) fv d 33)
  go_enter Tryd.func35, Tryd.ntmps35
  go_wp2_with fail
  refine (impl_IsConfig_any n _ _ d cs fs _ (HK.out.ext E0) (HC.out.ext E0) (HF.out.ext E0) hz).mono ?_
  rintro e w1 ⟨rfl, F1⟩
  have E1 := E0.trans F1
  obtain ⟨q0, q1, q2, q3, q4⟩ := B0.out.ext F1
  cases hr : goodB n cs fs d
  · have HV := Lib.hid (show hasB n cs fs d i = false by rw [hasB, hr]; rfl)
    go_wp2
    go_ret
    exact ⟨by rw [HV.out]; rfl, E1⟩
  have HV := Lib.hid (show hasB n cs fs d i = inR i 0 ((cs.length : Int) - 1) by rw [hasB, hr]; rfl)
  by_cases h0 : 0 ≤ i
  · by_cases h1 : i < cs.length
    all_goals
      go_wp2
      go_ret
      exact ⟨by rw [HV.out]; simp [inR, h0]; omega, E1⟩
  · go_wp2
    go_ret
    exact ⟨by rw [HV.out]; simp [inR, h0]; try omega, E1⟩
theorem spec_cfHas_any (n : ByteArray) (cv fv : Value) (d i : Int) (cs : List Cls) (fs : List Flt) (w : World) (hk : Keys w) (hc : RdC w cv cs) (hf : RdF w fv fs) (hz : n.size + cs.length + fs.length ≤ 1048576) :
    Calls Tryd.prog 31 #[cfgV n cv fv d, .int .i64 i] w fun e w' => e = .returned (.bool (hasB n cs fs d i)) ∧ Ext w w' := by
  have HCC := Lib.hid hc
  obtain ⟨CA, cc, rfl, hcc, _⟩ := hc
  have hc := HCC.out
  have HC := Lib.hid hc
  have HF := Lib.hid hf
  have HK := Lib.hid hk
  clear hc hf hk
  have E0 := (Ext.refl w).alloc (.cells #[.string n, .slice CA cs.length cc, fv, .int .i64 d] 33)
  have B0 := Lib.hid (Box.new w n (.slice CA cs.length cc) fv d 33)
  go_enter Tryd.func31, Tryd.ntmps31
  go_wp2_with fail
  refine (spec_cfGood_any n _ _ d cs fs _ (HK.out.ext E0) (HC.out.ext E0) (HF.out.ext E0) hz).mono ?_
  rintro e w1 ⟨rfl, F1⟩
  have E1 := E0.trans F1
  obtain ⟨q0, q1, q2, q3, q4⟩ := B0.out.ext F1
  cases hr : goodB n cs fs d
  · have HV := Lib.hid (show hasB n cs fs d i = false by rw [hasB, hr]; rfl)
    go_wp2
    go_ret
    exact ⟨by rw [HV.out]; rfl, E1⟩
  have HV := Lib.hid (show hasB n cs fs d i = inR i 0 ((cs.length : Int) - 1) by rw [hasB, hr]; rfl)
  go_wp2_with fail
  refine (spec_l1In_any _ _ _ _).mono ?_
  rintro e w2 ⟨rfl, rfl⟩
  go_wp2
  go_ret
  exact ⟨by rw [HV.out]; rfl, E1⟩
def fcB (n : ByteArray) (cs : List Cls) (fs : List Flt) (d id : Int) : Bool := goodB n cs fs d && decide (0 ≤ findI cs id)
def fcV (n : ByteArray) (cs : List Cls) (fs : List Flt) (d id : Int) : Int := if fcB n cs fs d id then findI cs id else 0
def srV (n : ByteArray) (cs : List Cls) (fs : List Flt) (d i : Int) : Int := if hasB n cs fs d i then rateAt cs i.toNat - kidR cs i.toNat else 0
def topC (x : Cls) : Bool := x.parent == 0
def toV (n : ByteArray) (cs : List Cls) (fs : List Flt) (d : Int) : Int := if goodB n cs fs d then idxC cs topC else 0
theorem topC_is (cs : List Cls) (k : Nat) (h : k < cs.length) : topP cs k = clsAt cs k topC := by rw [topP, parAt_is cs k h, clsAt_is cs k topC h]; rfl
theorem good_top {n : ByteArray} {cs : List Cls} {fs : List Flt} {d : Int} (h : goodB n cs fs d = true) : ∃ u : Nat, idxC cs topC = u ∧ u < cs.length ∧ topP cs u = true ∧ ∀ j, j < u → topP cs j = false := by
  have h3 := good_cond h 3 (by omega) (by omega)
  simp only [condB, parB, Bool.and_eq_true, beq_iff_eq] at h3
  have hb := fndN_bd (fun k => clsAt cs k topC) cs.length 0
  have hs := fndN_spec (fun k => clsAt cs k topC) cs.length 0
  rcases hb with h1 | ⟨h1, h2⟩
  · have h4 : pick (topP cs) cs.length = [] := (pick_nil _ _).2 fun j hj => by rw [topC_is cs j hj]; exact hs.1 h1 j (by omega) (by omega)
    have h5 := h3.1
    unfold topsN at h5
    rw [h4] at h5
    simp at h5
  · obtain ⟨u, hu⟩ := Int.eq_ofNat_of_zero_le (show 0 ≤ fndN (fun k => clsAt cs k topC) 0 cs.length by omega)
    have h4 : u < cs.length := by omega
    refine ⟨u, hu, h4, ?_, fun j hj => ?_⟩
    · rw [topC_is cs u h4]; exact (hs.2 u hu).1
    · rw [topC_is cs j (by omega)]; exact (hs.2 u hu).2 j (by omega) hj
theorem good_deep {n : ByteArray} {cs : List Cls} {fs : List Flt} {d : Int} (h : goodB n cs fs d = true) (k : Nat) (hk : k < cs.length) : deepP cs k = false := by
  have h4 := good_cond h 4 (by omega) (by omega)
  have := noN_at (show noN (wayBad cs) cs.length = true from h4) hk
  simp only [wayBad, Bool.or_eq_false_iff] at this
  exact this.1
theorem good_zero {n : ByteArray} {cs : List Cls} {fs : List Flt} {d : Int} (h : goodB n cs fs d = true) : findI cs 0 = -1 := by
  have h2 := good_cond h 2 (by omega) (by omega)
  simp only [condB, idsB, Bool.and_eq_true] at h2
  rcases findI_bd cs 0 with h1 | ⟨u, h1, hu⟩
  · exact h1
  · have h3 := ((fndN_spec (fun k => clsAt cs k fun x => x.id == 0) cs.length 0).2 u h1).1
    rw [clsAt_is cs u _ hu] at h3
    have h4 := noN_at h2.1 hu
    simp only [idBad, Bool.or_eq_false_iff, idAt_is cs u hu] at h4
    have h5 : cs[u].id = 0 := by simpa using h3
    rw [h5] at h4
    have h6 : (!inR 0 1 999) = false := h4.1
    cases h6
/-- In a valid configuration the way goes on just where the parent is not 0. -/
theorem good_next {n : ByteArray} {cs : List Cls} {fs : List Flt} {d : Int} (h : goodB n cs fs d = true) (u : Nat) (hu : u < cs.length) : (parAt cs u = 0 → findI cs (parAt cs u) = -1) ∧ (parAt cs u ≠ 0 → 0 ≤ findI cs (parAt cs u)) := by
  refine ⟨fun h0 => by rw [h0]; exact good_zero h, fun h0 => ?_⟩
  have h3 := good_cond h 3 (by omega) (by omega)
  simp only [condB, parB, Bool.and_eq_true] at h3
  have h4 := noN_at h3.2 hu
  rw [show bpP cs u = (parAt cs u != 0 && decide (findI cs (parAt cs u) < 0)) by rw [parAt_is cs u hu]; exact clsAt_is cs u _ hu, show (parAt cs u != 0) = true by simp [h0]] at h4
  have : ¬ findI cs (parAt cs u) < 0 := by simpa using h4
  omega
theorem impl_wayUp_any (n : ByteArray) (cv fv : Value) (d : Int) (i : Nat) (cs : List Cls) (fs : List Flt) (w : World) (hc : RdC w cv cs) (hi : i < cs.length) (hg : goodB n cs fs d = true) :
    Calls Tryd.prog 42 #[cfgV n cv fv d, .int .i64 (i : Int)] w fun e w' => ∃ u, e = .returned u ∧ OwnI w' w.heap.size 3 u (wayL (upF cs) i (upN (upF cs) i)) ∧ Ext w w' := by
  have HC := Lib.hid hc
  obtain ⟨CA, cc, rfl, hcc, hrc⟩ := hc
  have HR := Lib.hid hrc
  clear hrc
  have hl := (good_len hg).2.1
  have HNX := Lib.hid (good_next hg)
  obtain ⟨hu9, hu0, hup, hue⟩ := upN_spec (upF cs) i
  have hu8 := (up_way hi).2 (good_deep hg i hi)
  have HUP := Lib.hid hup
  have HUE := Lib.hid (hue (by omega))
  clear hup hue hg
  have D0 := (Ext.refl (w.alloc (.cells #[.string n, .slice CA cs.length cc, fv, .int .i64 d] 33))).alloc (.cells #[.int .i64 (i : Int)] 3)
  have HST := Lib.hid (show OwnI ((w.alloc (.cells #[.string n, .slice CA cs.length cc, fv, .int .i64 d] 33)).alloc (.cells #[.int .i64 (i : Int)] 3)) (w.heap.size + 1) 3 (.slice (some ⟨w.heap.size + 1, 0, none⟩) 1 1) [(i : Int)] by
    have := World.ownsRow_lit (base := w.heap.size + 1) (e := 3) (size := 1) (w.alloc (.cells #[.string n, .slice CA cs.length cc, fv, .int .i64 d] 33)) #[.int .i64 (i : Int)] 1 (by simp) (by unfold maxLen; omega) rfl
    unfold OwnI Own
    simpa [icell] using this)
  go_enter Tryd.func42, Tryd.ntmps42
  go_wp2
  go_loopw [1, 5] (fun t s wr => ∃ m : Nat, m < upN (upF cs) i ∧ t = .int .i64 (itU (upF cs) i m) ∧ Hid (OwnI wr (w.heap.size + 1) 3 s (wayL (upF cs) i (m + 1))) ∧ Ext (w.alloc (.cells #[.string n, .slice CA cs.length cc, fv, .int .i64 d] 33)) wr) (fun _ s _ => 10 - lenV s)
  case atStart => exact ⟨0, hu0, rfl, HST.out, D0⟩
  case round =>
    obtain ⟨m, hm, rfl, hq, hx⟩ := hrel
    have hxw := Ext.trans ((Ext.refl w).alloc (.cells #[.string n, .slice CA cs.length cc, fv, .int .i64 d] 33)) hx
    have HLS := Lib.hid (own_lenV hq.out icell_len)
    obtain ⟨u, hu⟩ := Int.eq_ofNat_of_zero_le (HUP.out m hm)
    have hul : u < cs.length := by have := itU_bd (upF_bd cs) hi m; omega
    have HU := Lib.hid hu
    have HNU := Lib.hid (HNX.out u hul)
    rw [hu]
    clear hu
    obtain ⟨b, o, hCA, hb, hcell⟩ := HR.out u cs[u] (List.getElem?_eq_getElem hul)
    have HPA := Lib.hid (parAt_is cs u hul)
    generalize cs[u] = x at hcell HPA
    subst hCA
    have c1 : wr.cell? ⟨b, o + u * 8 + 1, none⟩ = some (.int .i64 x.parent) := by rw [Ext.cell hxw hb]; exact hcell 1 _ rfl
    clear hcell
    have z0 : b < wr.heap.size := Ext.lts hxw _ hb
    obtain ⟨q0, q1, q2, q3, q4⟩ := (Box.new w n (.slice (some ⟨b, o, none⟩) cs.length cc) fv d 33).ext hx
    by_cases hp : x.parent = 0
    · have HE := Lib.hid (show upN (upF cs) i = m + 1 by
        have h1 := HNU.out.1 (by rw [HPA.out, hp])
        have h2 := itU_up HU.out
        rw [h1] at h2
        rcases Nat.lt_or_ge (m + 1) (upN (upF cs) i) with h3 | h3
        · have := HUP.out (m + 1) h3
          omega
        · omega)
      go_wp2
      go_ret
      exact ⟨_, rfl, by rw [HE.out]; exact Own.mono hq.out (by omega), hxw⟩
    · have hp' : (x.parent != 0) = true := by simp [hp]
      have HF := Lib.hid (show itU (upF cs) i (m + 1) = findI cs x.parent by rw [itU_up HU.out, HPA.out])
      have HM := Lib.hid (show m + 1 < upN (upF cs) i by
        have h1 := HNU.out.2 (by rw [HPA.out]; exact hp)
        rw [HPA.out, ← HF.out] at h1
        rcases Nat.lt_or_ge (m + 1) (upN (upF cs) i) with h3 | h3
        · exact h3
        · have h4 : upN (upF cs) i = m + 1 := by omega
          have h5 := HUE.out
          rw [h4] at h5
          omega)
      go_wp2_with fail
      (go_wp2_with fail; refine wp_region_ext (by kernel_rfl) (by kernel_rfl) ?_; (repeat (first | go_big_quiet_step ((first | (go_at_call 59; exact calls_later (impl_indexOf_any _ _ _ _ _ _ _ (HC.out.ext (hxw.trans (Later.ext _))) (by omega))))) | quiet_step ((first | (go_at_call 59; exact calls_later (impl_indexOf_any _ _ _ _ _ _ _ (HC.out.ext (hxw.trans (Later.ext _))) (by omega))))))); refine wpQuiet_nil ?_; intro wq hbq; have hcq := Ext.cells hbq; have hzq := Ext.frozens hbq; have hsq := Ext.lts hbq)
      clear q0 q1 q2 q3 q4 c1 hcq hzq hsq
      go_wp2_with (at_builtin; refine app_intB (by simp) (Own.ext hq.out hbq) (by rw [wayL_len]; omega) (hx.trans hbq) rfl rfl rfl rfl ?_; intro v2 w2 hown2 D2)
      have HO2 := Lib.hid hown2
      have HL2 := Lib.hid (own_lenV hown2 icell_len)
      clear hown2
      go_wp2
      go_roundw
      case rel => exact ⟨m + 1, HM.out, by rw [HF.out], by rw [wayL_succ, HF.out]; exact HO2.out, D2⟩
      case measure =>
        have h1 := HL2.out
        have h2 := HLS.out
        have h3 := HM.out
        rw [List.length_append, wayL_len, List.length_singleton] at h1
        rw [wayL_len] at h2
        rw [h1, h2]
        omega
def belB (n : ByteArray) (cs : List Cls) (fs : List Flt) (d i k : Int) : Bool := hasB n cs fs d i && inR k 0 ((cs.length : Int) - 1)
def belV (n : ByteArray) (cs : List Cls) (fs : List Flt) (d i k : Int) : Bool := belB n cs fs d i k && hasI (wayL (upF cs) i.toNat (upN (upF cs) i.toNat)) k
end Go.Proofs.YtjjflfoecdnegaaDoor
