/- SetLimit: contracts of both sides. Printed by wip/tools/gen_setl.py. -/
import Derived.Test.YtidahgoihgodnaaDoorCfgM
namespace Go.Proofs.YtidahgoihgodnaaDoor
open Go.RowKit
set_option maxRecDepth 20000
set_option maxHeartbeats 4000000
set_option linter.unusedSimpArgs false
set_option linter.unusedVariables false

def setLim (cs : List Cls) (i : Nat) (v : Int) : List Cls := match cs[i]? with
  | some x => cs.set i { x with limit := v }
  | none => cs
theorem setLim_len (cs : List Cls) (i : Nat) (v : Int) : (setLim cs i v).length = cs.length := by
  unfold setLim
  split <;> simp
theorem setLim_at (cs : List Cls) (i : Nat) (v : Int) (h : i < cs.length) : setLim cs i v = cs.set i { cs[i] with limit := v } := by
  unfold setLim
  rw [List.getElem?_eq_getElem h]
def slR (n : ByteArray) (cs : List Cls) (fs : List Flt) (d id lim : Int) : CfgR := if goodB n cs fs d && leafIdB cs id then ifR n (setLim cs (findI cs id).toNat lim) fs d else noCfg
theorem ifR_len (n : ByteArray) (cs : List Cls) (fs : List Flt) (d : Int) (k : Nat) (hz : cs.length ≤ k ∧ fs.length ≤ k) : (ifR n cs fs d).cls.length ≤ k ∧ (ifR n cs fs d).flt.length ≤ k := by
  unfold ifR
  split
  · exact hz
  · simp [noCfg]
theorem slR_len (n : ByteArray) (cs : List Cls) (fs : List Flt) (d id lim : Int) (hz : n.size + cs.length + fs.length ≤ 1048576) : (slR n cs fs d id lim).cls.length ≤ 2000000 ∧ (slR n cs fs d id lim).flt.length ≤ 2000000 := by
  unfold slR
  split
  · exact ifR_len _ _ _ _ _ ⟨by rw [setLim_len]; omega, by omega⟩
  · simp [noCfg]
theorem impl_SetLimit_any (n : ByteArray) (cv fv : Value) (d id lim : Int) (cs : List Cls) (fs : List Flt) (w : World) (hk : Keys w) (hc : SrcC w cv cs) (hf : SrcF w fv fs) (hz : n.size + cs.length + fs.length ≤ 1048576) :
    Calls Tryd.prog 9 #[cfgV n cv fv d, .int .i64 id, .int .i64 lim] w (RetC (slR n cs fs d id lim) w) := by
  have HC := Lib.hid hc
  have HF := Lib.hid hf
  have HK := Lib.hid hk
  clear hc hf hk
  have E0 : Ext w ((w.alloc (.cells #[.string n, cv, fv, .int .i64 d] 30)).alloc (.cells #[.string ⟨#[]⟩, .slice none 0 0, .slice none 0 0, .int .i64 0] 30)) := by (repeat (first | (with_reducible exact Ext.refl _) | (with_reducible assumption) | (with_reducible apply Ext.alloc) | (with_reducible apply Ext.drew) | (with_reducible apply Ext.drewN) | ((with_reducible refine Ext.setCell ?_ ?_ _); rotate_left; (focus (first | (simp; done) | (simp; omega) | omega))) | (with_reducible refine Ext.trans ?_ (by assumption))))
  have BX := Lib.hid ((Box.new w n cv fv d 30).ext ((Ext.refl _).alloc (.cells #[.string ⟨#[]⟩, .slice none 0 0, .slice none 0 0, .int .i64 0] 30)))
  have BR := Lib.hid (show Blk ((w.alloc (.cells #[.string n, cv, fv, .int .i64 d] 30)).alloc (.cells #[.string ⟨#[]⟩, .slice none 0 0, .slice none 0 0, .int .i64 0] 30)) (w.heap.size + 1) 30 #[.string ⟨#[]⟩, .slice none 0 0, .slice none 0 0, .int .i64 0] by
    have := Blk.new (w.alloc (.cells #[.string n, cv, fv, .int .i64 d] 30)) 30 #[.string ⟨#[]⟩, .slice none 0 0, .slice none 0 0, .int .i64 0]
    simpa using this)
  go_enter Tryd.func9, Tryd.ntmps9
  go_wp2_with fail
  refine (impl_IsConfig_any n _ _ d cs fs _ (HK.out.ext E0) ((Src.rd HC.out).ext E0) ((Src.rd HF.out).ext E0) hz).mono ?_
  rintro e w1 ⟨rfl, X1⟩
  have E1 := E0.trans X1
  cases hr : goodB n cs fs d
  · have HRW := Lib.hid hr
    have HR := Lib.hid (show slR n cs fs d id lim = noCfg by rw [slR, HRW.out]; rfl)
    obtain ⟨⟨r0, r1, r2, r3⟩, ⟨f0, f1, f2, f3⟩, hfz⟩ := C4.blk (BR.out.ext X1)
    go_wp2
    refine bodyPost_ret (v := .tuple #[cfgV ⟨#[]⟩ (.slice none 0 0) (.slice none 0 0) 0, .bool false]) (by simp [results, Tryd.results9, go_sem, *]) rfl (retC_no HR.out ?_)
    (repeat (first | (with_reducible exact Ext.refl _) | (with_reducible assumption) | (with_reducible apply Ext.alloc) | (with_reducible apply Ext.drew) | (with_reducible apply Ext.drewN) | ((with_reducible refine Ext.setCell ?_ ?_ _); rotate_left; (focus (first | (simp; done) | (simp; omega) | omega))) | (with_reducible refine Ext.trans ?_ (by assumption))))
  have HRW := Lib.hid hr
  obtain ⟨q0, q1, q2, q3, q4⟩ := BX.out.ext X1
  go_wp2_with fail
  clear q0 q1 q2 q3 q4
  refine (impl_indexOf_any n _ fv d id cs _ ((Src.rd HC.out).ext E1) (by omega)).mono ?_
  rintro e w2 ⟨rfl, F2⟩
  have X2 := X1.trans F2
  have E2 := E0.trans X2
  rcases findI_bd cs id with hu | ⟨u, hu, hul⟩
  · have HV := Lib.hid (show leafIdB cs id = false by simp [leafIdB, hu])
    rw [hu]
    have HR := Lib.hid (show slR n cs fs d id lim = noCfg by rw [slR, HRW.out, HV.out]; rfl)
    obtain ⟨⟨r0, r1, r2, r3⟩, ⟨f0, f1, f2, f3⟩, hfz⟩ := C4.blk (BR.out.ext X2)
    go_wp2
    refine bodyPost_ret (v := .tuple #[cfgV ⟨#[]⟩ (.slice none 0 0) (.slice none 0 0) 0, .bool false]) (by simp [results, Tryd.results9, go_sem, *]) rfl (retC_no HR.out ?_)
    (repeat (first | (with_reducible exact Ext.refl _) | (with_reducible assumption) | (with_reducible apply Ext.alloc) | (with_reducible apply Ext.drew) | (with_reducible apply Ext.drewN) | ((with_reducible refine Ext.setCell ?_ ?_ _); rotate_left; (focus (first | (simp; done) | (simp; omega) | omega))) | (with_reducible refine Ext.trans ?_ (by assumption))))
  have HV := Lib.hid (show leafIdB cs id = leafB cs u by simp [leafIdB, hu])
  rw [hu]
  have HU := Lib.hid hu
  clear hu
  obtain ⟨q0, q1, q2, q3, q4⟩ := BX.out.ext X2
  go_wp2_with fail
  clear q0 q1 q2 q3 q4
  refine (impl_isLeaf_any n _ fv d u cs _ ((Src.rd HC.out).ext E2) hul (by omega)).mono ?_
  rintro e w3 ⟨rfl, F3⟩
  have X3 := X2.trans F3
  have E3 := E0.trans X3
  cases hlf : leafB cs u
  · have HLF := Lib.hid hlf
    have HR := Lib.hid (show slR n cs fs d id lim = noCfg by rw [slR, HRW.out, HV.out, HLF.out]; rfl)
    obtain ⟨⟨r0, r1, r2, r3⟩, ⟨f0, f1, f2, f3⟩, hfz⟩ := C4.blk (BR.out.ext X3)
    go_wp2
    refine bodyPost_ret (v := .tuple #[cfgV ⟨#[]⟩ (.slice none 0 0) (.slice none 0 0) 0, .bool false]) (by simp [results, Tryd.results9, go_sem, *]) rfl (retC_no HR.out ?_)
    (repeat (first | (with_reducible exact Ext.refl _) | (with_reducible assumption) | (with_reducible apply Ext.alloc) | (with_reducible apply Ext.drew) | (with_reducible apply Ext.drewN) | ((with_reducible refine Ext.setCell ?_ ?_ _); rotate_left; (focus (first | (simp; done) | (simp; omega) | omega))) | (with_reducible refine Ext.trans ?_ (by assumption))))
  have HLF := Lib.hid hlf
  obtain ⟨q0, q1, q2, q3, q4⟩ := BX.out.ext X3
  go_wp2_with fail
  clear q0 q1 q2 q3 q4
  refine (impl_cloneConfig_any n _ _ d cs fs _ (HC.out.ext E3) (HF.out.ext E3) (by omega) (by omega)).mono ?_
  rintro e w4 ⟨u1, u2, rfl, O1, O2, F4⟩
  have X4 := X3.trans F4
  have E4 := E0.trans X4
  obtain ⟨g, cap, cells, rfl, hb, hglt, _, _, _, _, _⟩ := Own.blk O1 (by omega)
  obtain ⟨A2, k2, rfl, _, _⟩ := Own.rd O2 Flt.len
  have HO1 := Lib.hid O1
  have HO2 := Lib.hid O2
  clear O1 O2
  have hs3 := Ext.size X3
  have hs4 := Ext.size F4
  simp at hs3
  have n3 : (Value.slice A2 fs.length k2).ownBlock ≠ some g := fun h => Own.apart HO2.out HO1.out (by decide) g h rfl
  have OB1 := Lib.hid (show OwnC (w4.alloc (.cells #[.string n, (.slice (some ⟨g, 0, none⟩) cs.length cap), (.slice A2 fs.length k2), .int .i64 d] 30)) w3.heap.size (.slice (some ⟨g, 0, none⟩) cs.length cap) cs from HO1.out.ext ((Ext.refl w4).alloc _))
  have OB2 := Lib.hid (show OwnF (w4.alloc (.cells #[.string n, (.slice (some ⟨g, 0, none⟩) cs.length cap), (.slice A2 fs.length k2), .int .i64 d] 30)) w3.heap.size (.slice A2 fs.length k2) fs from HO2.out.ext ((Ext.refl w4).alloc _))
  have hg1 : g ≠ w.heap.size + 1 := by omega
  have BRB := Lib.hid (show Blk (w4.alloc (.cells #[.string n, (.slice (some ⟨g, 0, none⟩) cs.length cap), (.slice A2 fs.length k2), .int .i64 d] 30)) (w.heap.size + 1) 30 #[.string ⟨#[]⟩, .slice none 0 0, .slice none 0 0, .int .i64 0] from (BR.out.ext X4).ext ((Ext.refl w4).alloc _))
  have EB : Ext w (w4.alloc (.cells #[.string n, (.slice (some ⟨g, 0, none⟩) cs.length cap), (.slice A2 fs.length k2), .int .i64 d] 30)) := by (repeat (first | (with_reducible exact Ext.refl _) | (with_reducible assumption) | (with_reducible apply Ext.alloc) | (with_reducible apply Ext.drew) | (with_reducible apply Ext.drewN) | ((with_reducible refine Ext.setCell ?_ ?_ _); rotate_left; (focus (first | (simp; done) | (simp; omega) | omega))) | (with_reducible refine Ext.trans ?_ (by assumption))))
  obtain ⟨hcl, hfr⟩ := Own.cell_at HO1.out u 7 cs[u] (.int .i64 cs[u].limit) (List.getElem?_eq_getElem hul) Cls.len rfl
  obtain ⟨cs', HCS, OC⟩ : ∃ l, Hid (l = setLim cs u lim) ∧ Hid (OwnC ((w4.setCell ⟨g, u * 8 + 7, none⟩ (.int .i64 lim)).alloc (.cells #[.string n, (.slice (some ⟨g, 0, none⟩) cs.length cap), (.slice A2 fs.length k2), .int .i64 d] 30)) w3.heap.size (.slice (some ⟨g, 0, none⟩) cs.length cap) l) :=
    ⟨_, Lib.hid rfl, Lib.hid (by rw [setLim_at cs u lim hul]; exact Own.ext (Own.set_at' HO1.out u 7 cs[u] _ _ (List.getElem?_eq_getElem hul) (by omega) Cls.len rfl) ((Ext.refl _).alloc _))⟩
  have OF := Lib.hid (show OwnF ((w4.setCell ⟨g, u * 8 + 7, none⟩ (.int .i64 lim)).alloc (.cells #[.string n, (.slice (some ⟨g, 0, none⟩) cs.length cap), (.slice A2 fs.length k2), .int .i64 d] 30)) w3.heap.size (.slice A2 fs.length k2) fs from (HO2.out.setOff n3 _ _).ext ((Ext.refl _).alloc _))
  have BRC := Lib.hid (((BR.out.ext X4).kept hg1 (u * 8 + 7) (.int .i64 lim)).ext ((Ext.refl _).alloc (.cells #[.string n, (.slice (some ⟨g, 0, none⟩) cs.length cap), (.slice A2 fs.length k2), .int .i64 d] 30)))
  have EC : Ext w ((w4.setCell ⟨g, u * 8 + 7, none⟩ (.int .i64 lim)).alloc (.cells #[.string n, (.slice (some ⟨g, 0, none⟩) cs.length cap), (.slice A2 fs.length k2), .int .i64 d] 30)) := by (repeat (first | (with_reducible exact Ext.refl _) | (with_reducible assumption) | (with_reducible apply Ext.alloc) | (with_reducible apply Ext.drew) | (with_reducible apply Ext.drewN) | ((with_reducible refine Ext.setCell ?_ ?_ _); rotate_left; (focus (first | (simp; done) | (simp; omega) | omega))) | (with_reducible refine Ext.trans ?_ (by assumption))))
  have hz' : n.size + cs'.length + fs.length ≤ 1048576 := by rw [HCS.out, setLim_len]; exact hz
  have HR := Lib.hid (show slR n cs fs d id lim = ifR n cs' fs d by rw [slR, HRW.out, HV.out, HLF.out, HU.out, HCS.out]; rfl)
  clear hr hlf
  go_wp2_with fail
  refine (impl_ifConfig_any n _ _ _ _ _ _ d cs' fs _ (HK.out.ext EC) (Own.rd OC.out Cls.len) (Own.rd OF.out Flt.len) hz').mono ?_
  rintro e w5 ⟨rfl, F5⟩
  clear hcl hfr
  obtain ⟨⟨r0, r1, r2, r3⟩, ⟨f0, f1, f2, f3⟩, hfz⟩ := C4.blk (BRC.out.ext F5)
  go_wp2
  refine bodyPost_ret (v := .tuple #[ifV (goodB n cs' fs d) n (some ⟨g, 0, none⟩) cs.length cap A2 fs.length k2 d, .bool (goodB n cs' fs d)]) (by simp [results, Tryd.results9, go_sem, *]) rfl (retC_eq HR.out (retC_if ?_ ?_ ?_))
  · refine Own.mono (base := w3.heap.size) ?_ (by omega)
    repeat (with_reducible refine Own.setCell ?_ (by omega) _ _)
    exact OC.out.ext F5
  · refine Own.mono (base := w3.heap.size) ?_ (by omega)
    repeat (with_reducible refine Own.setCell ?_ (by omega) _ _)
    exact OF.out.ext F5
  · (repeat (first | (with_reducible exact Ext.refl _) | (with_reducible assumption) | (with_reducible apply Ext.alloc) | (with_reducible apply Ext.drew) | (with_reducible apply Ext.drewN) | ((with_reducible refine Ext.setCell ?_ ?_ _); rotate_left; (focus (first | (simp; done) | (simp; omega) | omega))) | (with_reducible refine Ext.trans ?_ (by assumption))))
theorem spec_SetLimit_any (n : ByteArray) (cv fv : Value) (d id lim : Int) (cs : List Cls) (fs : List Flt) (w : World) (hk : Keys w) (hc : SrcC w cv cs) (hf : SrcF w fv fs) (hz : n.size + cs.length + fs.length ≤ 1048576) :
    Calls Tryd.prog 7 #[cfgV n cv fv d, .int .i64 id, .int .i64 lim] w (RetC (slR n cs fs d id lim) w) := by
  have HC := Lib.hid hc
  have HF := Lib.hid hf
  have HK := Lib.hid hk
  clear hc hf hk
  have E0 : Ext w ((w.alloc (.cells #[.string n, cv, fv, .int .i64 d] 30)).alloc (.cells #[.string ⟨#[]⟩, .slice none 0 0, .slice none 0 0, .int .i64 0] 30)) := by (repeat (first | (with_reducible exact Ext.refl _) | (with_reducible assumption) | (with_reducible apply Ext.alloc) | (with_reducible apply Ext.drew) | (with_reducible apply Ext.drewN) | ((with_reducible refine Ext.setCell ?_ ?_ _); rotate_left; (focus (first | (simp; done) | (simp; omega) | omega))) | (with_reducible refine Ext.trans ?_ (by assumption))))
  have BX := Lib.hid ((Box.new w n cv fv d 30).ext ((Ext.refl _).alloc (.cells #[.string ⟨#[]⟩, .slice none 0 0, .slice none 0 0, .int .i64 0] 30)))
  have BR := Lib.hid (show Blk ((w.alloc (.cells #[.string n, cv, fv, .int .i64 d] 30)).alloc (.cells #[.string ⟨#[]⟩, .slice none 0 0, .slice none 0 0, .int .i64 0] 30)) (w.heap.size + 1) 30 #[.string ⟨#[]⟩, .slice none 0 0, .slice none 0 0, .int .i64 0] by
    have := Blk.new (w.alloc (.cells #[.string n, cv, fv, .int .i64 d] 30)) 30 #[.string ⟨#[]⟩, .slice none 0 0, .slice none 0 0, .int .i64 0]
    simpa using this)
  go_enter Tryd.func7, Tryd.ntmps7
  go_wp2_with fail
  refine (spec_cfGood_any n _ _ d cs fs _ (HK.out.ext E0) ((Src.rd HC.out).ext E0) ((Src.rd HF.out).ext E0) hz).mono ?_
  rintro e w1 ⟨rfl, X1⟩
  have E1 := E0.trans X1
  cases hr : goodB n cs fs d
  · have HRW := Lib.hid hr
    have HR := Lib.hid (show slR n cs fs d id lim = noCfg by rw [slR, HRW.out]; rfl)
    obtain ⟨⟨r0, r1, r2, r3⟩, ⟨f0, f1, f2, f3⟩, hfz⟩ := C4.blk (BR.out.ext X1)
    go_wp2
    refine bodyPost_ret (v := .tuple #[cfgV ⟨#[]⟩ (.slice none 0 0) (.slice none 0 0) 0, .bool false]) (by simp [results, Tryd.results7, go_sem, *]) rfl (retC_no HR.out ?_)
    (repeat (first | (with_reducible exact Ext.refl _) | (with_reducible assumption) | (with_reducible apply Ext.alloc) | (with_reducible apply Ext.drew) | (with_reducible apply Ext.drewN) | ((with_reducible refine Ext.setCell ?_ ?_ _); rotate_left; (focus (first | (simp; done) | (simp; omega) | omega))) | (with_reducible refine Ext.trans ?_ (by assumption))))
  have HRW := Lib.hid hr
  obtain ⟨q0, q1, q2, q3, q4⟩ := BX.out.ext X1
  go_wp2_with fail
  clear q0 q1 q2 q3 q4
  refine (spec_cfTarget_any n _ fv d id cs _ ((Src.rd HC.out).ext E1) (by omega)).mono ?_
  rintro e w2 ⟨rfl, F2⟩
  have X2 := X1.trans F2
  have E2 := E0.trans X2
  cases ht : leafIdB cs id
  · have HV := Lib.hid ht
    have HR := Lib.hid (show slR n cs fs d id lim = noCfg by rw [slR, HRW.out, HV.out]; rfl)
    obtain ⟨⟨r0, r1, r2, r3⟩, ⟨f0, f1, f2, f3⟩, hfz⟩ := C4.blk (BR.out.ext X2)
    go_wp2
    refine bodyPost_ret (v := .tuple #[cfgV ⟨#[]⟩ (.slice none 0 0) (.slice none 0 0) 0, .bool false]) (by simp [results, Tryd.results7, go_sem, *]) rfl (retC_no HR.out ?_)
    (repeat (first | (with_reducible exact Ext.refl _) | (with_reducible assumption) | (with_reducible apply Ext.alloc) | (with_reducible apply Ext.drew) | (with_reducible apply Ext.drewN) | ((with_reducible refine Ext.setCell ?_ ?_ _); rotate_left; (focus (first | (simp; done) | (simp; omega) | omega))) | (with_reducible refine Ext.trans ?_ (by assumption))))
  have HV := Lib.hid ht
  obtain ⟨u, hu, hul⟩ : ∃ u : Nat, findI cs id = u ∧ u < cs.length := by
    rcases findI_bd cs id with hu | hu
    · simp [leafIdB, hu] at ht
    · exact hu
  have HU := Lib.hid hu
  obtain ⟨q0, q1, q2, q3, q4⟩ := BX.out.ext X2
  clear hu
  go_wp2_with fail
  clear q0 q1 q2 q3 q4
  refine (spec_cfOwn_any n _ _ d cs fs _ (HC.out.ext E2) (HF.out.ext E2) (by omega) (by omega)).mono ?_
  rintro e w4 ⟨u1, u2, rfl, O1, O2, F4⟩
  have X4 := X2.trans F4
  have E4 := E0.trans X4
  obtain ⟨g, cap, cells, rfl, hb, hglt, _, _, _, _, _⟩ := Own.blk O1 (by omega)
  obtain ⟨A2, k2, rfl, _, _⟩ := Own.rd O2 Flt.len
  have HO1 := Lib.hid O1
  have HO2 := Lib.hid O2
  clear O1 O2
  have hs3 := Ext.size X2
  have hs4 := Ext.size F4
  simp at hs3
  have n3 : (Value.slice A2 fs.length k2).ownBlock ≠ some g := fun h => Own.apart HO2.out HO1.out (by decide) g h rfl
  have OB1 := Lib.hid (show OwnC (w4.alloc (.cells #[.string n, (.slice (some ⟨g, 0, none⟩) cs.length cap), (.slice A2 fs.length k2), .int .i64 d] 30)) w2.heap.size (.slice (some ⟨g, 0, none⟩) cs.length cap) cs from HO1.out.ext ((Ext.refl w4).alloc _))
  have OB2 := Lib.hid (show OwnF (w4.alloc (.cells #[.string n, (.slice (some ⟨g, 0, none⟩) cs.length cap), (.slice A2 fs.length k2), .int .i64 d] 30)) w2.heap.size (.slice A2 fs.length k2) fs from HO2.out.ext ((Ext.refl w4).alloc _))
  have hg1 : g ≠ w.heap.size + 1 := by omega
  have BRB := Lib.hid (show Blk (w4.alloc (.cells #[.string n, (.slice (some ⟨g, 0, none⟩) cs.length cap), (.slice A2 fs.length k2), .int .i64 d] 30)) (w.heap.size + 1) 30 #[.string ⟨#[]⟩, .slice none 0 0, .slice none 0 0, .int .i64 0] from (BR.out.ext X4).ext ((Ext.refl w4).alloc _))
  have EB : Ext w (w4.alloc (.cells #[.string n, (.slice (some ⟨g, 0, none⟩) cs.length cap), (.slice A2 fs.length k2), .int .i64 d] 30)) := by (repeat (first | (with_reducible exact Ext.refl _) | (with_reducible assumption) | (with_reducible apply Ext.alloc) | (with_reducible apply Ext.drew) | (with_reducible apply Ext.drewN) | ((with_reducible refine Ext.setCell ?_ ?_ _); rotate_left; (focus (first | (simp; done) | (simp; omega) | omega))) | (with_reducible refine Ext.trans ?_ (by assumption))))
  have BN := Lib.hid (Blk.new w4 30 #[.string n, (.slice (some ⟨g, 0, none⟩) cs.length cap), (.slice A2 fs.length k2), .int .i64 d])
  have XB : Ext ((w.alloc (.cells #[.string n, cv, fv, .int .i64 d] 30)).alloc (.cells #[.string ⟨#[]⟩, .slice none 0 0, .slice none 0 0, .int .i64 0] 30)) (w4.alloc (.cells #[.string n, (.slice (some ⟨g, 0, none⟩) cs.length cap), (.slice A2 fs.length k2), .int .i64 d] 30)) := by
    have := Ext.size X4
    simp at this
    (repeat (first | (with_reducible exact Ext.refl _) | (with_reducible assumption) | (with_reducible apply Ext.alloc) | (with_reducible apply Ext.drew) | (with_reducible apply Ext.drewN) | ((with_reducible refine Ext.setCell ?_ ?_ _); rotate_left; (focus (first | (simp; done) | (simp; omega) | omega))) | (with_reducible refine Ext.trans ?_ (by assumption))))
  have hu := HU.out
  have hu0 : (0 : Int) ≤ (u : Int) := by omega
  have hu1 : (u : Int) < (cs.length : Int) := by omega
  have hgn : ¬ g = w4.heap.size := by omega
  have hgw : ¬ g = w.heap.size := by omega
  obtain ⟨q0, q1, q2, q3, q4⟩ := BX.out.ext X4
  obtain ⟨p0, p1, p2, p3, p4⟩ : Box w4 w.heap.size n cv fv d := BX.out.ext X4
  clear p0 p1 p2 p3 p4
  go_wp2_with fail
  obtain ⟨q0, q1, q2, q3, q4⟩ := BX.out.ext XB
  obtain ⟨⟨p0, p1, p2, p3⟩, _, _⟩ := C4.blk BN.out
  go_region_held3 (fun w' => w'.cell? ⟨w4.heap.size, 1, none⟩ = some (.slice (some ⟨g, 0, none⟩) cs.length cap) ∧ w'.cell? ⟨w.heap.size, 0, none⟩ = some (.string n) ∧ w'.cell? ⟨w.heap.size, 1, none⟩ = some cv ∧ w'.cell? ⟨w.heap.size, 2, none⟩ = some fv ∧ w'.cell? ⟨w.heap.size, 3, none⟩ = some (.int .i64 d)) (first | exact ⟨p1, q0, q1, q2, q3⟩ | go_keep)
    ((go_at_call 22; refine (spec_cfFind_any n _ fv d id cs _ ((Src.rd HC.out).ext (by (repeat (first | (with_reducible exact Ext.refl _) | (with_reducible assumption) | (with_reducible apply Ext.alloc) | (with_reducible apply Ext.drew) | (with_reducible apply Ext.drewN) | ((with_reducible refine Ext.setCell ?_ ?_ _); rotate_left; (focus (first | (simp; done) | (simp; omega) | omega))) | (with_reducible refine Ext.trans ?_ (by assumption)))))) (by omega)).mono ?_; rintro e w5 ⟨rfl, F5⟩; have X5 : Ext (w4.alloc (.cells #[.string n, (.slice (some ⟨g, 0, none⟩) cs.length cap), (.slice A2 fs.length k2), .int .i64 d] 30)) w5 := (by (repeat (first | (with_reducible exact Ext.refl _) | (with_reducible assumption) | (with_reducible apply Ext.alloc) | (with_reducible apply Ext.drew) | (with_reducible apply Ext.drewN) | ((with_reducible refine Ext.setCell ?_ ?_ _); rotate_left; (focus (first | (simp; done) | (simp; omega) | omega))) | (with_reducible refine Ext.trans ?_ (by assumption))))); obtain ⟨q0, q1, q2, q3, q4⟩ := BX.out.ext (XB.trans X5); obtain ⟨⟨p0, p1, p2, p3⟩, _, _⟩ := C4.blk (BN.out.ext X5); obtain ⟨hcl, hfr⟩ := Own.cell_at (OB1.out.ext X5) u 7 cs[u] (.int .i64 cs[u].limit) (List.getElem?_eq_getElem hul) Cls.len rfl))
  obtain ⟨cs', HCS, OC⟩ : ∃ l, Hid (l = setLim cs u lim) ∧ Hid (OwnC (w5.setCell ⟨g, u * 8 + 7, none⟩ (.int .i64 lim)) w2.heap.size (.slice (some ⟨g, 0, none⟩) cs.length cap) l) :=
    ⟨_, Lib.hid rfl, Lib.hid (by rw [setLim_at cs u lim hul]; exact Own.set_at' (OB1.out.ext X5) u 7 cs[u] _ _ (List.getElem?_eq_getElem hul) (by omega) Cls.len rfl)⟩
  have OF := Lib.hid (show OwnF (w5.setCell ⟨g, u * 8 + 7, none⟩ (.int .i64 lim)) w2.heap.size (.slice A2 fs.length k2) fs from (OB2.out.ext X5).setOff n3 _ _)
  have BRC := Lib.hid ((BRB.out.ext X5).kept hg1 (u * 8 + 7) (.int .i64 lim))
  have EC : Ext w (w5.setCell ⟨g, u * 8 + 7, none⟩ (.int .i64 lim)) := by (repeat (first | (with_reducible exact Ext.refl _) | (with_reducible assumption) | (with_reducible apply Ext.alloc) | (with_reducible apply Ext.drew) | (with_reducible apply Ext.drewN) | ((with_reducible refine Ext.setCell ?_ ?_ _); rotate_left; (focus (first | (simp; done) | (simp; omega) | omega))) | (with_reducible refine Ext.trans ?_ (by assumption))))
  have hz' : n.size + cs'.length + fs.length ≤ 1048576 := by rw [HCS.out, setLim_len]; exact hz
  have HR := Lib.hid (show slR n cs fs d id lim = ifR n cs' fs d by rw [slR, HRW.out, HV.out, HU.out, HCS.out]; rfl)
  clear hr ht
  go_wp2_with fail
  refine (spec_cfIf_any n _ _ _ _ _ _ d cs' fs _ (HK.out.ext EC) (Own.rd OC.out Cls.len) (Own.rd OF.out Flt.len) hz').mono ?_
  rintro e w6 ⟨rfl, F6⟩
  clear hcl hfr
  obtain ⟨⟨r0, r1, r2, r3⟩, ⟨f0, f1, f2, f3⟩, hfz⟩ := C4.blk (BRC.out.ext F6)
  go_wp2
  refine bodyPost_ret (v := .tuple #[ifV (goodB n cs' fs d) n (some ⟨g, 0, none⟩) cs.length cap A2 fs.length k2 d, .bool (goodB n cs' fs d)]) (by simp [results, Tryd.results7, go_sem, *]) rfl (retC_eq HR.out (retC_if ?_ ?_ ?_))
  · refine Own.mono (base := w2.heap.size) ?_ (by omega)
    repeat (with_reducible refine Own.setCell ?_ (by omega) _ _)
    exact OC.out.ext F6
  · refine Own.mono (base := w2.heap.size) ?_ (by omega)
    repeat (with_reducible refine Own.setCell ?_ (by omega) _ _)
    exact OF.out.ext F6
  · (repeat (first | (with_reducible exact Ext.refl _) | (with_reducible assumption) | (with_reducible apply Ext.alloc) | (with_reducible apply Ext.drew) | (with_reducible apply Ext.drewN) | ((with_reducible refine Ext.setCell ?_ ?_ _); rotate_left; (focus (first | (simp; done) | (simp; omega) | omega))) | (with_reducible refine Ext.trans ?_ (by assumption))))
end Go.Proofs.YtidahgoihgodnaaDoor
