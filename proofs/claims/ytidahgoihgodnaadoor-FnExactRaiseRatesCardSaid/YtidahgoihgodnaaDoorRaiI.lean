/- RaiseRates: contract of the program's side. Printed by wip/tools/gen_rai2.py. -/
import Derived.Test.YtidahgoihgodnaaDoorRaiQ
import Derived.Deep.DeepCutAuto
import Derived.Deep.RegionWith
namespace Go.Proofs.YtidahgoihgodnaaDoor
open Go.RowKit
set_option maxRecDepth 20000
set_option maxHeartbeats 4000000
set_option linter.unusedSimpArgs false
set_option linter.unusedVariables false

theorem impl_RaiseRates_any (n : ByteArray) (cv fv : Value) (d : Int) (cs : List Cls) (fs : List Flt) (w : World) (hk : Keys w) (hc : SrcC w cv cs) (hf : SrcF w fv fs) (hz : n.size + cs.length + fs.length ≤ 1048576) :
    Calls Tryd.prog 16 #[cfgV n cv fv d] w (RetC (rrR n cs fs d) w) := by
  obtain ⟨CA, cc, rfl, hcc, _⟩ := Src.rd hc
  obtain ⟨FA, fc, rfl, hfc, _⟩ := Src.rd hf
  have HC := Lib.hid hc
  have HF := Lib.hid hf
  have HK := Lib.hid hk
  clear hc hf hk
  have E0 : Ext w ((w.alloc (.cells #[.string n, .slice CA cs.length cc, .slice FA fs.length fc, .int .i64 d] 30)).alloc (.cells #[.string ⟨#[]⟩, .slice none 0 0, .slice none 0 0, .int .i64 0] 30)) := by (repeat (first | (with_reducible exact Ext.refl _) | (with_reducible assumption) | (with_reducible apply Ext.alloc) | (with_reducible apply Ext.drew) | (with_reducible apply Ext.drewN) | ((with_reducible refine Ext.setCell ?_ ?_ _); rotate_left; (focus (first | (simp; done) | (simp; omega) | omega))) | (with_reducible refine Ext.trans ?_ (by assumption))))
  have BX := Lib.hid ((Box.new w n (.slice CA cs.length cc) (.slice FA fs.length fc) d 30).ext ((Ext.refl _).alloc (.cells #[.string ⟨#[]⟩, .slice none 0 0, .slice none 0 0, .int .i64 0] 30)))
  have BR := Lib.hid (show Blk ((w.alloc (.cells #[.string n, .slice CA cs.length cc, .slice FA fs.length fc, .int .i64 d] 30)).alloc (.cells #[.string ⟨#[]⟩, .slice none 0 0, .slice none 0 0, .int .i64 0] 30)) (w.heap.size + 1) 30 #[.string ⟨#[]⟩, .slice none 0 0, .slice none 0 0, .int .i64 0] by
    have := Blk.new (w.alloc (.cells #[.string n, .slice CA cs.length cc, .slice FA fs.length fc, .int .i64 d] 30)) 30 #[.string ⟨#[]⟩, .slice none 0 0, .slice none 0 0, .int .i64 0]
    simpa using this)
  go_enter Tryd.func16, Tryd.ntmps16
  go_wp2_with fail
  refine (impl_isRaw_any n _ _ d cs fs _ ((Src.rd HC.out).ext E0) ((Src.rd HF.out).ext E0) (by omega) (by omega)).mono ?_
  rintro e w1 ⟨rfl, X1⟩
  have E1 := E0.trans X1
  obtain ⟨q0, q1, q2, q3, q4⟩ := BX.out.ext X1
  have hsm : smallCf cs fs = false → TreeB cs = false ∨ ¬ fs.length ≤ 16 ∨ cntB cs = false := fun h => by
    by_cases h24 : cs.length ≤ 24
    · right; left
      intro h16
      simp [smallCf] at h
      omega
    · exact .inl (tree_no24 h24)
  have HSM := Lib.hid hsm
  clear hsm
  cases hr : smallCf cs fs
  · have HRW := Lib.hid (show TreeB cs = false ∨ ¬ fs.length ≤ 16 ∨ cntB cs = false from HSM.out hr)
    have HR := Lib.hid (show rrR n cs fs d = noCfg from rrR_no HRW.out)
    obtain ⟨⟨r0, r1, r2, r3⟩, ⟨f0, f1, f2, f3⟩, hfz⟩ := C4.blk (BR.out.ext X1)
    go_wp2
    refine bodyPost_ret (v := .tuple #[cfgV ⟨#[]⟩ (.slice none 0 0) (.slice none 0 0) 0, .bool false]) (by simp [results, Tryd.results16, go_sem, *]) rfl (retC_no HR.out ?_)
    (repeat (first | (with_reducible exact Ext.refl _) | (with_reducible assumption) | (with_reducible apply Ext.alloc) | (with_reducible apply Ext.drew) | (with_reducible apply Ext.drewN) | ((with_reducible refine Ext.setCell ?_ ?_ _); rotate_left; (focus (first | (simp; done) | (simp; omega) | omega))) | (with_reducible refine Ext.trans ?_ (by assumption))))
  clear hr
  by_cases h24 : cs.length ≤ 24
  rotate_left
  · have h24' : (24 : Int) < (cs.length : Int) := by omega
    have HRW := Lib.hid (show TreeB cs = false ∨ ¬ fs.length ≤ 16 ∨ cntB cs = false from .inl (tree_no24 h24))
    have HR := Lib.hid (show rrR n cs fs d = noCfg from rrR_no HRW.out)
    obtain ⟨⟨r0, r1, r2, r3⟩, ⟨f0, f1, f2, f3⟩, hfz⟩ := C4.blk (BR.out.ext X1)
    go_wp2
    refine bodyPost_ret (v := .tuple #[cfgV ⟨#[]⟩ (.slice none 0 0) (.slice none 0 0) 0, .bool false]) (by simp [results, Tryd.results16, go_sem, *]) rfl (retC_no HR.out ?_)
    (repeat (first | (with_reducible exact Ext.refl _) | (with_reducible assumption) | (with_reducible apply Ext.alloc) | (with_reducible apply Ext.drew) | (with_reducible apply Ext.drewN) | ((with_reducible refine Ext.setCell ?_ ?_ _); rotate_left; (focus (first | (simp; done) | (simp; omega) | omega))) | (with_reducible refine Ext.trans ?_ (by assumption))))
  have h24' : ¬ (24 : Int) < (cs.length : Int) := by omega
  by_cases h16 : fs.length ≤ 16
  rotate_left
  · have h16' : (16 : Int) < (fs.length : Int) := by omega
    have HRW := Lib.hid (show TreeB cs = false ∨ ¬ fs.length ≤ 16 ∨ cntB cs = false from .inr (.inl h16))
    have HR := Lib.hid (show rrR n cs fs d = noCfg from rrR_no HRW.out)
    obtain ⟨⟨r0, r1, r2, r3⟩, ⟨f0, f1, f2, f3⟩, hfz⟩ := C4.blk (BR.out.ext X1)
    go_wp2
    refine bodyPost_ret (v := .tuple #[cfgV ⟨#[]⟩ (.slice none 0 0) (.slice none 0 0) 0, .bool false]) (by simp [results, Tryd.results16, go_sem, *]) rfl (retC_no HR.out ?_)
    (repeat (first | (with_reducible exact Ext.refl _) | (with_reducible assumption) | (with_reducible apply Ext.alloc) | (with_reducible apply Ext.drew) | (with_reducible apply Ext.drewN) | ((with_reducible refine Ext.setCell ?_ ?_ _); rotate_left; (focus (first | (simp; done) | (simp; omega) | omega))) | (with_reducible refine Ext.trans ?_ (by assumption))))
  have h16' : ¬ (16 : Int) < (fs.length : Int) := by omega
  go_wp2_with fail
  clear q0 q1 q2 q3 q4
  refine (impl_holds_any n _ _ d 2 cs fs _ (HK.out.ext E1) ((Src.rd HC.out).ext E1) ((Src.rd HF.out).ext E1) (by omega) (by omega) (by omega) (by omega)).mono ?_
  rintro e v2 ⟨rfl, F2⟩
  have Y2 := X1.trans F2
  have E2 := E0.trans Y2
  obtain ⟨q0, q1, q2, q3, q4⟩ := BX.out.ext Y2
  cases h2 : condB n cs fs d 2
  · have HRW := Lib.hid (show TreeB cs = false ∨ ¬ fs.length ≤ 16 ∨ cntB cs = false from .inl (by rw [tree_conds n cs fs d, h2]; rfl))
    have HR := Lib.hid (show rrR n cs fs d = noCfg from rrR_no HRW.out)
    obtain ⟨⟨r0, r1, r2, r3⟩, ⟨f0, f1, f2, f3⟩, hfz⟩ := C4.blk (BR.out.ext Y2)
    go_wp2
    refine bodyPost_ret (v := .tuple #[cfgV ⟨#[]⟩ (.slice none 0 0) (.slice none 0 0) 0, .bool false]) (by simp [results, Tryd.results16, go_sem, *]) rfl (retC_no HR.out ?_)
    (repeat (first | (with_reducible exact Ext.refl _) | (with_reducible assumption) | (with_reducible apply Ext.alloc) | (with_reducible apply Ext.drew) | (with_reducible apply Ext.drewN) | ((with_reducible refine Ext.setCell ?_ ?_ _); rotate_left; (focus (first | (simp; done) | (simp; omega) | omega))) | (with_reducible refine Ext.trans ?_ (by assumption))))
  go_wp2_with fail
  clear q0 q1 q2 q3 q4
  refine (impl_holds_any n _ _ d 3 cs fs _ (HK.out.ext E2) ((Src.rd HC.out).ext E2) ((Src.rd HF.out).ext E2) (by omega) (by omega) (by omega) (by omega)).mono ?_
  rintro e v3 ⟨rfl, F3⟩
  have Y3 := Y2.trans F3
  have E3 := E0.trans Y3
  obtain ⟨q0, q1, q2, q3, q4⟩ := BX.out.ext Y3
  cases h3 : condB n cs fs d 3
  · have HRW := Lib.hid (show TreeB cs = false ∨ ¬ fs.length ≤ 16 ∨ cntB cs = false from .inl (by rw [tree_conds n cs fs d, h2, h3]; rfl))
    have HR := Lib.hid (show rrR n cs fs d = noCfg from rrR_no HRW.out)
    obtain ⟨⟨r0, r1, r2, r3⟩, ⟨f0, f1, f2, f3⟩, hfz⟩ := C4.blk (BR.out.ext Y3)
    go_wp2
    refine bodyPost_ret (v := .tuple #[cfgV ⟨#[]⟩ (.slice none 0 0) (.slice none 0 0) 0, .bool false]) (by simp [results, Tryd.results16, go_sem, *]) rfl (retC_no HR.out ?_)
    (repeat (first | (with_reducible exact Ext.refl _) | (with_reducible assumption) | (with_reducible apply Ext.alloc) | (with_reducible apply Ext.drew) | (with_reducible apply Ext.drewN) | ((with_reducible refine Ext.setCell ?_ ?_ _); rotate_left; (focus (first | (simp; done) | (simp; omega) | omega))) | (with_reducible refine Ext.trans ?_ (by assumption))))
  go_wp2_with fail
  clear q0 q1 q2 q3 q4
  refine (impl_holds_any n _ _ d 4 cs fs _ (HK.out.ext E3) ((Src.rd HC.out).ext E3) ((Src.rd HF.out).ext E3) (by omega) (by omega) (by omega) (by omega)).mono ?_
  rintro e v4 ⟨rfl, F4⟩
  have Y4 := Y3.trans F4
  have E4 := E0.trans Y4
  obtain ⟨q0, q1, q2, q3, q4⟩ := BX.out.ext Y4
  cases h4 : condB n cs fs d 4
  · have HRW := Lib.hid (show TreeB cs = false ∨ ¬ fs.length ≤ 16 ∨ cntB cs = false from .inl (by rw [tree_conds n cs fs d, h2, h3, h4]; rfl))
    have HR := Lib.hid (show rrR n cs fs d = noCfg from rrR_no HRW.out)
    obtain ⟨⟨r0, r1, r2, r3⟩, ⟨f0, f1, f2, f3⟩, hfz⟩ := C4.blk (BR.out.ext Y4)
    go_wp2
    refine bodyPost_ret (v := .tuple #[cfgV ⟨#[]⟩ (.slice none 0 0) (.slice none 0 0) 0, .bool false]) (by simp [results, Tryd.results16, go_sem, *]) rfl (retC_no HR.out ?_)
    (repeat (first | (with_reducible exact Ext.refl _) | (with_reducible assumption) | (with_reducible apply Ext.alloc) | (with_reducible apply Ext.drew) | (with_reducible apply Ext.drewN) | ((with_reducible refine Ext.setCell ?_ ?_ _); rotate_left; (focus (first | (simp; done) | (simp; omega) | omega))) | (with_reducible refine Ext.trans ?_ (by assumption))))
  have ht : TreeB cs = true := by rw [tree_conds n cs fs d, h2, h3, h4]; rfl
  have HT := Lib.hid ht
  clear ht h2 h3 h4
  go_wp2_with fail
  clear q0 q1 q2 q3 q4
  refine (impl_ratesCountable_any n _ _ d cs _ ((Src.rd HC.out).ext E4) (by omega)).mono ?_
  rintro e v6 ⟨rfl, F6⟩
  have Y6 := Y4.trans F6
  have E6 := E0.trans Y6
  obtain ⟨q0, q1, q2, q3, q4⟩ := BX.out.ext Y6
  cases h6 : cntB cs
  · have HRW := Lib.hid (show TreeB cs = false ∨ ¬ fs.length ≤ 16 ∨ cntB cs = false from .inr (.inr h6))
    have HR := Lib.hid (show rrR n cs fs d = noCfg from rrR_no HRW.out)
    obtain ⟨⟨r0, r1, r2, r3⟩, ⟨f0, f1, f2, f3⟩, hfz⟩ := C4.blk (BR.out.ext Y6)
    go_wp2
    refine bodyPost_ret (v := .tuple #[cfgV ⟨#[]⟩ (.slice none 0 0) (.slice none 0 0) 0, .bool false]) (by simp [results, Tryd.results16, go_sem, *]) rfl (retC_no HR.out ?_)
    (repeat (first | (with_reducible exact Ext.refl _) | (with_reducible assumption) | (with_reducible apply Ext.alloc) | (with_reducible apply Ext.drew) | (with_reducible apply Ext.drewN) | ((with_reducible refine Ext.setCell ?_ ?_ _); rotate_left; (focus (first | (simp; done) | (simp; omega) | omega))) | (with_reducible refine Ext.trans ?_ (by assumption))))
  have HN := Lib.hid h6
  clear h6
  obtain ⟨hl1, _⟩ := tree_len HT.out
  go_wp2_with fail
  clear q0 q1 q2 q3 q4
  refine (impl_cloneConfig_any n _ _ d cs fs _ (HC.out.ext E6) (HF.out.ext E6) (by omega) (by omega)).mono ?_
  rintro e w4 ⟨u1, u2, rfl, O1, O2, F4⟩
  have X4 := Y6.trans F4
  have E4 := E0.trans X4
  obtain ⟨g, cap, cells, rfl, hb, hglt, _, _, _, _, _⟩ := Own.blk O1 (by omega)
  obtain ⟨A2, k2, rfl, _, _⟩ := Own.rd O2 Flt.len
  have HO1 := Lib.hid O1
  have HO2 := Lib.hid O2
  clear O1 O2
  have hs3 := Ext.size Y6
  have hs4 := Ext.size F4
  simp at hs3
  have n3 : (Value.slice A2 fs.length k2).ownBlock ≠ some g := fun h => Own.apart HO2.out HO1.out (by decide) g h rfl
  have OB1 := Lib.hid (show OwnC (w4.alloc (.cells #[.string n, (.slice (some ⟨g, 0, none⟩) cs.length cap), (.slice A2 fs.length k2), .int .i64 d] 30)) v6.heap.size (.slice (some ⟨g, 0, none⟩) cs.length cap) cs from HO1.out.ext ((Ext.refl w4).alloc _))
  have OB2 := Lib.hid (show OwnF (w4.alloc (.cells #[.string n, (.slice (some ⟨g, 0, none⟩) cs.length cap), (.slice A2 fs.length k2), .int .i64 d] 30)) v6.heap.size (.slice A2 fs.length k2) fs from HO2.out.ext ((Ext.refl w4).alloc _))
  have hg1 : g ≠ w.heap.size + 1 := by omega
  have BRB := Lib.hid (show Blk (w4.alloc (.cells #[.string n, (.slice (some ⟨g, 0, none⟩) cs.length cap), (.slice A2 fs.length k2), .int .i64 d] 30)) (w.heap.size + 1) 30 #[.string ⟨#[]⟩, .slice none 0 0, .slice none 0 0, .int .i64 0] from (BR.out.ext X4).ext ((Ext.refl w4).alloc _))
  have EB : Ext w (w4.alloc (.cells #[.string n, (.slice (some ⟨g, 0, none⟩) cs.length cap), (.slice A2 fs.length k2), .int .i64 d] 30)) := by (repeat (first | (with_reducible exact Ext.refl _) | (with_reducible assumption) | (with_reducible apply Ext.alloc) | (with_reducible apply Ext.drew) | (with_reducible apply Ext.drewN) | ((with_reducible refine Ext.setCell ?_ ?_ _); rotate_left; (focus (first | (simp; done) | (simp; omega) | omega))) | (with_reducible refine Ext.trans ?_ (by assumption))))
  have BN := Lib.hid (Blk.new w4 30 #[.string n, (.slice (some ⟨g, 0, none⟩) cs.length cap), (.slice A2 fs.length k2), .int .i64 d])
  have XB : Ext ((w.alloc (.cells #[.string n, .slice CA cs.length cc, .slice FA fs.length fc, .int .i64 d] 30)).alloc (.cells #[.string ⟨#[]⟩, .slice none 0 0, .slice none 0 0, .int .i64 0] 30)) (w4.alloc (.cells #[.string n, (.slice (some ⟨g, 0, none⟩) cs.length cap), (.slice A2 fs.length k2), .int .i64 d] 30)) := by
    have := Ext.size X4
    simp at this
    (repeat (first | (with_reducible exact Ext.refl _) | (with_reducible assumption) | (with_reducible apply Ext.alloc) | (with_reducible apply Ext.drew) | (with_reducible apply Ext.drewN) | ((with_reducible refine Ext.setCell ?_ ?_ _); rotate_left; (focus (first | (simp; done) | (simp; omega) | omega))) | (with_reducible refine Ext.trans ?_ (by assumption))))
  have hgn : ¬ g = w4.heap.size := by omega
  have hgw : ¬ g = w.heap.size := by omega
  have n4 : (Value.slice A2 fs.length k2).ownBlock ≠ some w4.heap.size := fun h => by have := (Own.lt HO2.out _ h).2; omega
  go_wp2
  go_loopw [5] (fun t wr => ∃ (m : Nat) (z : Int), z + m = 8 ∧ 0 ≤ z ∧ t = .int .i64 z ∧ (∃ L, Hid (RaiS cs m 0 L) ∧ Hid (OwnC wr v6.heap.size (.slice (some ⟨g, 0, none⟩) cs.length cap) L)) ∧ Hid (OwnF wr v6.heap.size (.slice A2 fs.length k2) fs) ∧ Hid (Blk wr w4.heap.size 30 #[.string n, (.slice (some ⟨g, 0, none⟩) cs.length cap), (.slice A2 fs.length k2), .int .i64 d]) ∧ w4.heap.size < wr.heap.size ∧ Ext ((w.alloc (.cells #[.string n, .slice CA cs.length cc, .slice FA fs.length fc, .int .i64 d] 30)).alloc (.cells #[.string ⟨#[]⟩, .slice none 0 0, .slice none 0 0, .int .i64 0] 30)) wr) (fun t _ => (intOf t).toNat)
  case atStart => exact ⟨0, 8, by omega, by omega, rfl, ⟨cs, raiS_start HT.out, OB1.out⟩, OB2.out, BN.out, by simp, XB⟩
  case round =>
    obtain ⟨m, z, hz8, hz0, rfl, ⟨L, hL, hown⟩, hof, hbn, hwr, hx⟩ := hrel
    obtain ⟨⟨p0, p1, p2, p3⟩, ⟨g0, g1, g2, g3⟩, hp⟩ := C4.blk hbn.out
    by_cases hze : z = 0
    · subst hze
      obtain rfl : m = 8 := by omega
      have hll := (raiS_ST hL.out).len
      have hzd : n.size + L.length + fs.length ≤ 1048576 := by omega
      have EW := E0.trans hx
      have HR := Lib.hid (show rrR n cs fs d = ifR n L fs d from rrR_yes HT.out h16 HN.out hL.out)
      go_wp2_with fail
      refine (impl_ifConfig_any n _ _ _ _ _ _ d L fs _ (HK.out.ext EW) (Own.rd hown.out Cls.len) (Own.rd hof.out Flt.len) hzd).mono ?_
      rintro e wf ⟨rfl, FF⟩
      obtain ⟨⟨r0, r1, r2, r3⟩, ⟨f0, f1, f2, f3⟩, hfz⟩ := C4.blk ((BR.out.ext hx).ext FF)
      go_wp2
      refine bodyPost_ret (v := .tuple #[ifV (goodB n L fs d) n (some ⟨g, 0, none⟩) cs.length cap A2 fs.length k2 d, .bool (goodB n L fs d)]) (by simp [results, Tryd.results16, go_sem, *]) rfl (retC_eq HR.out (retC_if ?_ ?_ ?_))
      · refine Own.mono (base := v6.heap.size) ?_ (by omega)
        repeat (with_reducible refine Own.setCell ?_ (by omega) _ _)
        exact Own.mono (Own.ext hown.out FF) (by first | exact Nat.le_refl _ | (simp; done) | omega)
      · refine Own.mono (base := v6.heap.size) ?_ (by omega)
        repeat (with_reducible refine Own.setCell ?_ (by omega) _ _)
        exact Own.mono (Own.ext hof.out FF) (by first | exact Nat.le_refl _ | (simp; done) | omega)
      · have hx := Ext.trans EW FF
        (repeat (first | (with_reducible exact Ext.refl _) | (with_reducible assumption) | (with_reducible apply Ext.alloc) | (with_reducible apply Ext.drew) | (with_reducible apply Ext.drewN) | ((with_reducible refine Ext.setCell ?_ ?_ _); rotate_left; (focus (first | (simp; done) | (simp; omega) | omega))) | (with_reducible refine Ext.trans ?_ (by assumption))))
    · have hz1 : (1 : Int) ≤ z := by omega
      go_wp2
      go_loopw [52] (fun t wi => ∃ k : Nat, k ≤ cs.length ∧ t = .int .i64 (k : Int) ∧ (∃ L, Hid (RaiS cs m k L) ∧ Hid (OwnC wi v6.heap.size (.slice (some ⟨g, 0, none⟩) cs.length cap) L)) ∧ Hid (OwnF wi v6.heap.size (.slice A2 fs.length k2) fs) ∧ Hid (Blk wi w4.heap.size 30 #[.string n, (.slice (some ⟨g, 0, none⟩) cs.length cap), (.slice A2 fs.length k2), .int .i64 d]) ∧ w4.heap.size < wi.heap.size ∧ Ext ((w.alloc (.cells #[.string n, .slice CA cs.length cc, .slice FA fs.length fc, .int .i64 d] 30)).alloc (.cells #[.string ⟨#[]⟩, .slice none 0 0, .slice none 0 0, .int .i64 0] 30)) wi) (fun t _ => cs.length - (intOf t).toNat)
      case atStart => exact ⟨0, Nat.zero_le _, rfl, ⟨L, hL.out, hown.out⟩, hof.out, hbn.out, hwr, hx⟩
      case round =>
        clear p0 p1 p2 p3 g0 g1 g2 g3 hp hwr
        obtain ⟨k, hk, rfl, ⟨L2, hL2, hown2⟩, hof2, hbn2, hwr2, hx2⟩ := hrel
        obtain ⟨⟨p0, p1, p2, p3⟩, ⟨g0, g1, g2, g3⟩, hp⟩ := C4.blk hbn2.out
        by_cases hlt : k < cs.length
        · have hST := raiS_ST hL2.out
          have hll := hST.len
          have HTL := Lib.hid (show TreeB L2 = true by rw [hST.tree]; exact HT.out)
          have HUP := Lib.hid (show (wayL (upF L2) k (upN (upF L2) k)).length = depU cs k by rw [wayL_len, hST.upF]; rfl)
          clear hST
          go_wp2_with fail
          refine (impl_wayUpT_any n _ _ d k L2 _ (Own.rd hown2.out Cls.len) (by omega) HTL.out).mono ?_
          rintro e w5 ⟨u, rfl, OU, F5⟩
          obtain ⟨AU, ku, rfl, _, _⟩ := Own.rd OU icell_len
          clear OU
          rw [HUP.out]
          have hd8 := tree_dep HT.out k hlt
          obtain ⟨hd1, hd2, _, _⟩ := hd8
          obtain ⟨dk, HDK, hdk⟩ : ∃ dk, Hid (depU cs k = dk) ∧ dk = depU cs k := ⟨_, Lib.hid rfl, rfl⟩
          rw [← hdk] at hd1 hd2 ⊢
          clear hdk
          have hx5 := hx2.trans F5
          have hs5 := Ext.size F5
          have HO5 := Lib.hid (hown2.out.ext F5)
          have HF5 := Lib.hid (hof2.out.ext F5)
          have BN5 := Lib.hid (hbn2.out.ext F5)
          clear p0 p1 p2 p3 g0 g1 g2 g3 hp
          obtain ⟨⟨p0, p1, p2, p3⟩, ⟨g0, g1, g2, g3⟩, hp⟩ := C4.blk BN5.out
          by_cases hd : (dk : Int) = z
          · have hd' : ((dk : Int) != z) = false := by simp [hd]
            obtain ⟨hsum, x, hx0, hnext⟩ := raiS_at HT.out HN.out hL2.out hlt (by rw [HDK.out]; omega)
            have HSUM := Lib.hid hsum
            have HX := Lib.hid hx0
            have HNX := Lib.hid hnext
            clear hsum hx0 hnext
            have HO5' := Lib.hid (show OwnC w5 v6.heap.size (.slice (some ⟨g, 0, none⟩) L2.length cap) L2 by rw [hll]; exact HO5.out)
            obtain ⟨hcl, hfr⟩ := Own.cell_at HO5'.out k 2 x (.int .i64 x.rate) HX.out Cls.len rfl
            go_wp2_with fail
            go_region_with
              ((go_at_call 48; refine (impl_childRatesX_any n _ _ d k L2 _ ((Own.rd HO5.out Cls.len).ext (by (repeat (first | (with_reducible exact Ext.refl _) | (with_reducible assumption) | (with_reducible apply Ext.alloc) | (with_reducible apply Ext.drew) | (with_reducible apply Ext.drewN) | ((with_reducible refine Ext.setCell ?_ ?_ _); rotate_left; (focus (first | (simp; done) | (simp; omega) | omega))) | (with_reducible refine Ext.trans ?_ (by assumption)))))) (by omega) (by omega) HSUM.out).mono ?_; rintro e w6 ⟨rfl, F6⟩; have X6 : Ext w5 w6 := (by (repeat (first | (with_reducible exact Ext.refl _) | (with_reducible assumption) | (with_reducible apply Ext.alloc) | (with_reducible apply Ext.drew) | (with_reducible apply Ext.drewN) | ((with_reducible refine Ext.setCell ?_ ?_ _); rotate_left; (focus (first | (simp; done) | (simp; omega) | omega))) | (with_reducible refine Ext.trans ?_ (by assumption))))); obtain ⟨⟨p0, p1, p2, p3⟩, ⟨g0, g1, g2, g3⟩, hp⟩ := C4.blk (BN5.out.ext X6); obtain ⟨hcl, hfr⟩ := Own.cell_at (HO5'.out.ext X6) k 2 x (.int .i64 x.rate) HX.out Cls.len rfl))
            all_goals
              obtain ⟨r, HRR⟩ : ∃ r : Int, Hid (r = if x.rate < kidR L2 k then kidR L2 k else x.rate) := ⟨_, Lib.hid rfl⟩
              rw [← HRR.out]
              have HRM := Lib.hid (show r = max x.rate (kidR L2 k) by rw [HRR.out]; split <;> omega)
              obtain ⟨w7, H7⟩ : ∃ w7 : World, Hid (w7 = w6.setCell ⟨g, k * 8 + 2, none⟩ (.int .i64 r)) := ⟨_, Lib.hid rfl⟩
              obtain ⟨L3, HL3⟩ : ∃ L3 : List Cls, Hid (L3 = L2.set k { x with rate := r }) := ⟨_, Lib.hid rfl⟩
              have hl3 : L3.length = L2.length := by rw [HL3.out, List.length_set]
              have OC7 := Lib.hid (show OwnC w7 v6.heap.size (.slice (some ⟨g, 0, none⟩) L3.length cap) L3 by
                rw [hl3, H7.out, HL3.out]
                exact Own.set_at' (HO5'.out.ext X6) k 2 x _ _ HX.out (by omega) Cls.len rfl)
              have OF7 := Lib.hid (show OwnF w7 v6.heap.size (.slice A2 fs.length k2) fs by rw [H7.out]; exact (HF5.out.ext X6).setOff n3 _ _)
              have BN7 := Lib.hid (show Blk w7 w4.heap.size 30 #[.string n, (.slice (some ⟨g, 0, none⟩) cs.length cap), (.slice A2 fs.length k2), .int .i64 d] by rw [H7.out]; exact (BN5.out.ext X6).kept hgn (k * 8 + 2) (.int .i64 r))
              have E7 : Ext ((w.alloc (.cells #[.string n, .slice CA cs.length cc, .slice FA fs.length fc, .int .i64 d] 30)).alloc (.cells #[.string ⟨#[]⟩, .slice none 0 0, .slice none 0 0, .int .i64 0] 30)) w7 := by
                have hx6 := hx5.trans X6
                rw [H7.out]
                (repeat (first | (with_reducible exact Ext.refl _) | (with_reducible assumption) | (with_reducible apply Ext.alloc) | (with_reducible apply Ext.drew) | (with_reducible apply Ext.drewN) | ((with_reducible refine Ext.setCell ?_ ?_ _); rotate_left; (focus (first | (simp; done) | (simp; omega) | omega))) | (with_reducible refine Ext.trans ?_ (by assumption))))
              rw [← H7.out]
              clear hcl hfr p0 p1 p2 p3 g0 g1 g2 g3 hp
              have hs7 : w4.heap.size < w7.heap.size := BN7.out.lt
              have HX3 := Lib.hid (show L3[k]? = some { x with rate := r } by rw [HL3.out, List.getElem?_set, if_pos rfl, if_pos (by omega)])
              obtain ⟨hcl, hfl⟩ := Own.cell_at OC7.out k 3 _ (.int .i64 x.ceil) HX3.out Cls.len rfl
              obtain ⟨hcr, hfr⟩ := Own.cell_at OC7.out k 2 _ (.int .i64 r) HX3.out Cls.len rfl
              go_wp2_with fail
              go_big_region
              all_goals
                go_wp2_with fail
                go_roundw
                case rel =>
                  refine ⟨k + 1, by omega, by go_num, ⟨L3.set k { x with rate := r, ceil := max x.ceil r }, ?_, ?_⟩, ?_, ?_, ?_, ?_⟩
                  · rw [HL3.out, List.set_set, HRM.out]
                    exact HNX.out
                  · have h := Own.set_at' OC7.out k 3 _ { x with rate := r, ceil := max x.ceil r } (.int .i64 (if x.ceil < r then r else x.ceil)) HX3.out (by omega) Cls.len (by simp only [Cls.cells, show (if x.ceil < r then r else x.ceil) = max x.ceil r by split <;> omega]; rfl)
                    rw [hl3, hll] at h
                    first | exact h | exact h.ext ((Ext.refl _).drew)
                  · have h := OF7.out.setOff n3 (k * 8 + 3) (.int .i64 (if x.ceil < r then r else x.ceil))
                    first | exact h | exact h.ext ((Ext.refl _).drew)
                  · have h := BN7.out.kept hgn (k * 8 + 3) (.int .i64 (if x.ceil < r then r else x.ceil))
                    first | exact h | exact h.ext ((Ext.refl _).drew)
                  · simp; omega
                  · (repeat (first | (with_reducible exact Ext.refl _) | (with_reducible assumption) | (with_reducible apply Ext.alloc) | (with_reducible apply Ext.drew) | (with_reducible apply Ext.drewN) | ((with_reducible refine Ext.setCell ?_ ?_ _); rotate_left; (focus (first | (simp; done) | (simp; omega) | omega))) | (with_reducible refine Ext.trans ?_ (by assumption))))
                case measure => simp [intOf]; omega
          · have hd' : ((dk : Int) != z) = true := by simp [hd]
            go_wp2
            go_roundw
            case rel => exact ⟨k + 1, by omega, by go_num, ⟨L2, raiS_skip hL2.out (by rw [HDK.out]; omega), HO5.out⟩, HF5.out, BN5.out, by omega, hx5⟩
            case measure => simp [intOf]; omega
        · obtain rfl : k = cs.length := by omega
          go_wp2
          go_roundw
          case rel => exact ⟨m + 1, z - 1, by omega, by omega, by go_num, ⟨L2, raiS_next hL2.out (by omega), hown2.out⟩, hof2.out, hbn2.out, hwr2, hx2⟩
          case measure => simp [intOf]; omega
end Go.Proofs.YtidahgoihgodnaaDoor
