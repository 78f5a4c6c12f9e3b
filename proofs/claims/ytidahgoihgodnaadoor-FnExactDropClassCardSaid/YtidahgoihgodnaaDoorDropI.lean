/- DropClass: contract of the program's side. Printed by wip/tools/gen_drop.py. -/
import Derived.Test.YtidahgoihgodnaaDoorDropP
import Derived.Test.YtidahgoihgodnaaDoorDel
namespace Go.Proofs.YtidahgoihgodnaaDoor
open Go.RowKit
set_option maxRecDepth 20000
set_option maxHeartbeats 4000000
set_option linter.unusedSimpArgs false
set_option linter.unusedVariables false

theorem impl_DropClass_any (n : ByteArray) (cv fv : Value) (d id : Int) (cs : List Cls) (fs : List Flt) (w : World) (hk : Keys w) (hc : SrcC w cv cs) (hf : SrcF w fv fs) (hz : n.size + cs.length + fs.length ≤ 1048576) :
    Calls Tryd.prog 14 #[cfgV n cv fv d, .int .i64 id] w (RetC (drR n cs fs d id) w) := by
  cases hr : goodB n cs fs d
  · have HC := Lib.hid hc
    have HF := Lib.hid hf
    have HK := Lib.hid hk
    have HRW := Lib.hid hr
    clear hc hf hk
    have E0 : Ext w ((w.alloc (.cells #[.string n, cv, fv, .int .i64 d] 30)).alloc (.cells #[.string ⟨#[]⟩, .slice none 0 0, .slice none 0 0, .int .i64 0] 30)) := by (repeat (first | (with_reducible exact Ext.refl _) | (with_reducible assumption) | (with_reducible apply Ext.alloc) | (with_reducible apply Ext.drew) | (with_reducible apply Ext.drewN) | ((with_reducible refine Ext.setCell ?_ ?_ _); rotate_left; (focus (first | (simp; done) | (simp; omega) | omega))) | (with_reducible refine Ext.trans ?_ (by assumption))))
    have BX := Lib.hid ((Box.new w n cv fv d 30).ext ((Ext.refl _).alloc (.cells #[.string ⟨#[]⟩, .slice none 0 0, .slice none 0 0, .int .i64 0] 30)))
    have BR := Lib.hid (show Blk ((w.alloc (.cells #[.string n, cv, fv, .int .i64 d] 30)).alloc (.cells #[.string ⟨#[]⟩, .slice none 0 0, .slice none 0 0, .int .i64 0] 30)) (w.heap.size + 1) 30 #[.string ⟨#[]⟩, .slice none 0 0, .slice none 0 0, .int .i64 0] by
      have := Blk.new (w.alloc (.cells #[.string n, cv, fv, .int .i64 d] 30)) 30 #[.string ⟨#[]⟩, .slice none 0 0, .slice none 0 0, .int .i64 0]
      simpa using this)
    go_enter Tryd.func14, Tryd.ntmps14
    go_wp2_with fail
    refine (impl_IsConfig_any n _ _ d cs fs _ (HK.out.ext E0) ((Src.rd HC.out).ext E0) ((Src.rd HF.out).ext E0) hz).mono ?_
    rintro e w1 ⟨rfl, X1⟩
    have E1 := E0.trans X1
    have HR := Lib.hid (show drR n cs fs d id = noCfg by rw [drR, HRW.out]; rfl)
    obtain ⟨⟨r0, r1, r2, r3⟩, ⟨f0, f1, f2, f3⟩, hfz⟩ := C4.blk (BR.out.ext X1)
    go_wp2
    refine bodyPost_ret (v := .tuple #[cfgV ⟨#[]⟩ (.slice none 0 0) (.slice none 0 0) 0, .bool false]) (by simp [results, Tryd.results14, go_sem, *]) rfl (retC_no HR.out ?_)
    (repeat (first | (with_reducible exact Ext.refl _) | (with_reducible assumption) | (with_reducible apply Ext.alloc) | (with_reducible apply Ext.drew) | (with_reducible apply Ext.drewN) | ((with_reducible refine Ext.setCell ?_ ?_ _); rotate_left; (focus (first | (simp; done) | (simp; omega) | omega))) | (with_reducible refine Ext.trans ?_ (by assumption))))
  obtain ⟨hl1, hl24, hf16⟩ := good_len hr
  have HRW := Lib.hid hr
  have HID := Lib.hid (good_ids hr)
  rcases hc with ⟨h1, h2⟩ | ⟨b, o, kc, h1, hkc, hkm, hrd⟩
  · subst h2; simp at hl1
  subst h1
  have HC := Lib.hid (show SrcC w (.slice (some ⟨b, o, none⟩) cs.length kc) cs from .inr ⟨b, o, kc, rfl, hkc, hkm, hrd⟩)
  have HRD := Lib.hid hrd
  have HF := Lib.hid hf
  have HK := Lib.hid hk
  clear hrd hf hk
  have E0 : Ext w ((w.alloc (.cells #[.string n, .slice (some ⟨b, o, none⟩) cs.length kc, fv, .int .i64 d] 30)).alloc (.cells #[.string ⟨#[]⟩, .slice none 0 0, .slice none 0 0, .int .i64 0] 30)) := by (repeat (first | (with_reducible exact Ext.refl _) | (with_reducible assumption) | (with_reducible apply Ext.alloc) | (with_reducible apply Ext.drew) | (with_reducible apply Ext.drewN) | ((with_reducible refine Ext.setCell ?_ ?_ _); rotate_left; (focus (first | (simp; done) | (simp; omega) | omega))) | (with_reducible refine Ext.trans ?_ (by assumption))))
  have BX := Lib.hid ((Box.new w n (.slice (some ⟨b, o, none⟩) cs.length kc) fv d 30).ext ((Ext.refl _).alloc (.cells #[.string ⟨#[]⟩, .slice none 0 0, .slice none 0 0, .int .i64 0] 30)))
  have BR := Lib.hid (show Blk ((w.alloc (.cells #[.string n, .slice (some ⟨b, o, none⟩) cs.length kc, fv, .int .i64 d] 30)).alloc (.cells #[.string ⟨#[]⟩, .slice none 0 0, .slice none 0 0, .int .i64 0] 30)) (w.heap.size + 1) 30 #[.string ⟨#[]⟩, .slice none 0 0, .slice none 0 0, .int .i64 0] by
    have := Blk.new (w.alloc (.cells #[.string n, .slice (some ⟨b, o, none⟩) cs.length kc, fv, .int .i64 d] 30)) 30 #[.string ⟨#[]⟩, .slice none 0 0, .slice none 0 0, .int .i64 0]
    simpa using this)
  go_enter Tryd.func14, Tryd.ntmps14
  go_wp2_with fail
  refine (impl_IsConfig_any n _ _ d cs fs _ (HK.out.ext E0) ((Src.rd HC.out).ext E0) ((Src.rd HF.out).ext E0) hz).mono ?_
  rintro e w1 ⟨rfl, X1⟩
  have E1 := E0.trans X1
  obtain ⟨q0, q1, q2, q3, q4⟩ := BX.out.ext X1
  go_wp2_with fail
  clear q0 q1 q2 q3 q4
  refine (impl_indexOf_any n _ fv d id cs _ ((Src.rd HC.out).ext E1) (by omega)).mono ?_
  rintro e w2 ⟨rfl, F2⟩
  have X2 := X1.trans F2
  have E2 := E0.trans X2
  rcases findI_bd cs id with hu | ⟨u, hu, hul⟩
  · have HV := Lib.hid (show leafIdB cs id = false by simp [leafIdB, hu])
    rw [hu]
    have HR := Lib.hid (show drR n cs fs d id = noCfg by rw [drR, HRW.out, HV.out]; rfl)
    obtain ⟨⟨r0, r1, r2, r3⟩, ⟨f0, f1, f2, f3⟩, hfz⟩ := C4.blk (BR.out.ext X2)
    go_wp2
    refine bodyPost_ret (v := .tuple #[cfgV ⟨#[]⟩ (.slice none 0 0) (.slice none 0 0) 0, .bool false]) (by simp [results, Tryd.results14, go_sem, *]) rfl (retC_no HR.out ?_)
    (repeat (first | (with_reducible exact Ext.refl _) | (with_reducible assumption) | (with_reducible apply Ext.alloc) | (with_reducible apply Ext.drew) | (with_reducible apply Ext.drewN) | ((with_reducible refine Ext.setCell ?_ ?_ _); rotate_left; (focus (first | (simp; done) | (simp; omega) | omega))) | (with_reducible refine Ext.trans ?_ (by assumption))))
  have HV := Lib.hid (show leafIdB cs id = leafB cs u by simp [leafIdB, hu])
  rw [hu]
  have HU := Lib.hid hu
  clear hu
  obtain ⟨q0, q1, q2, q3, q4⟩ := BX.out.ext X2
  go_wp2_with fail
  clear q0 q1 q2 q3 q4
  refine (impl_isLeaf_any n _ fv d u cs _ ((Src.rd HC.out).ext E2) hul (by omega)).mono ?_
  rintro e w3 ⟨rfl, F3⟩
  have X3 := X2.trans F3
  have E3 := E0.trans X3
  cases hlf : leafB cs u
  · have HLF := Lib.hid hlf
    have HR := Lib.hid (show drR n cs fs d id = noCfg by rw [drR, HRW.out, HV.out, HLF.out]; rfl)
    obtain ⟨⟨r0, r1, r2, r3⟩, ⟨f0, f1, f2, f3⟩, hfz⟩ := C4.blk (BR.out.ext X3)
    go_wp2
    refine bodyPost_ret (v := .tuple #[cfgV ⟨#[]⟩ (.slice none 0 0) (.slice none 0 0) 0, .bool false]) (by simp [results, Tryd.results14, go_sem, *]) rfl (retC_no HR.out ?_)
    (repeat (first | (with_reducible exact Ext.refl _) | (with_reducible assumption) | (with_reducible apply Ext.alloc) | (with_reducible apply Ext.drew) | (with_reducible apply Ext.drewN) | ((with_reducible refine Ext.setCell ?_ ?_ _); rotate_left; (focus (first | (simp; done) | (simp; omega) | omega))) | (with_reducible refine Ext.trans ?_ (by assumption))))
  have HLF := Lib.hid hlf
  obtain ⟨D, HD⟩ : ∃ D, Hid (dropL cs id = D) := ⟨_, Lib.hid rfl⟩
  have HDT := Lib.hid (show cs.take u ++ cs.drop (u + 1) = D by rw [← HD.out]; exact (good_drop HID.out HU.out hul).symm)
  have hDl : cs.length - (u + 1 - u) = D.length := by rw [← HDT.out]; simp; omega
  have HDL := Lib.hid hDl
  have hzd : n.size + D.length + fs.length ≤ 1048576 := by omega
  have hdl : D.length ≤ 1048576 := by omega
  have hDR : ∀ cs', upLim D cs[u].parent cs[u].limit = cs' → drR n cs fs d id = ifR n cs' fs d := fun cs' h => by
    rw [drR, HRW.out, HV.out, HLF.out, HU.out, HD.out, Int.toNat_natCast, parAt_is cs u hul, show limAt cs u = cs[u].limit by simp [limAt, hul], h]
    rfl
  have HDR := Lib.hid hDR
  clear hDR hDl
  obtain ⟨hbw, hcell⟩ := HRD.out u cs[u] (List.getElem?_eq_getElem hul)
  generalize cs[u] = x at hcell HDR
  have c0 : w3.cell? ⟨b, o + u * 8, none⟩ = some (.int .i64 x.id) := by rw [Ext.cell E3 hbw]; exact hcell 0 _ rfl
  have c1 : w3.cell? ⟨b, o + u * 8 + 1, none⟩ = some (.int .i64 x.parent) := by rw [Ext.cell E3 hbw]; exact hcell 1 _ rfl
  have c2 : w3.cell? ⟨b, o + u * 8 + 2, none⟩ = some (.int .i64 x.rate) := by rw [Ext.cell E3 hbw]; exact hcell 2 _ rfl
  have c3 : w3.cell? ⟨b, o + u * 8 + 3, none⟩ = some (.int .i64 x.ceil) := by rw [Ext.cell E3 hbw]; exact hcell 3 _ rfl
  have c4 : w3.cell? ⟨b, o + u * 8 + 4, none⟩ = some (.int .i64 x.burst) := by rw [Ext.cell E3 hbw]; exact hcell 4 _ rfl
  have c5 : w3.cell? ⟨b, o + u * 8 + 5, none⟩ = some (.int .i64 x.cburst) := by rw [Ext.cell E3 hbw]; exact hcell 5 _ rfl
  have c6 : w3.cell? ⟨b, o + u * 8 + 6, none⟩ = some (.int .i64 x.prio) := by rw [Ext.cell E3 hbw]; exact hcell 6 _ rfl
  have c7 : w3.cell? ⟨b, o + u * 8 + 7, none⟩ = some (.int .i64 x.limit) := by rw [Ext.cell E3 hbw]; exact hcell 7 _ rfl
  clear hcell
  obtain ⟨q0, q1, q2, q3, q4⟩ := BX.out.ext X3
  have E3a := E3.alloc (.cells #[.int .i64 x.id, .int .i64 x.parent, .int .i64 x.rate, .int .i64 x.ceil, .int .i64 x.burst, .int .i64 x.cburst, .int .i64 x.prio, .int .i64 x.limit] 47)
  have BXX := Lib.hid (Blk.new w3 47 #[.int .i64 x.id, .int .i64 x.parent, .int .i64 x.rate, .int .i64 x.ceil, .int .i64 x.burst, .int .i64 x.cburst, .int .i64 x.prio, .int .i64 x.limit])
  have hs3 := Ext.size X3
  simp at hs3
  clear hr hlf
  go_wp2_with fail
  clear c0 c1 c2 c3 c4 c5 c6 c7 q0 q1 q2 q3 q4
  refine (impl_cloneConfig_any n _ _ d cs fs _ (HC.out.ext E3a) (HF.out.ext E3a) (by omega) (by omega)).mono ?_
  rintro e w4 ⟨u1, u2, rfl, O1, O2, F4⟩
  have X4 := (X3.alloc (.cells #[.int .i64 x.id, .int .i64 x.parent, .int .i64 x.rate, .int .i64 x.ceil, .int .i64 x.burst, .int .i64 x.cburst, .int .i64 x.prio, .int .i64 x.limit] 47)).trans F4
  have E4 := E0.trans X4
  obtain ⟨g, cap, cells, rfl, hb, hglt, _, _, _, _, _⟩ := Own.blk O1 (by omega)
  obtain ⟨A2, k2, rfl, _, _⟩ := Own.rd O2 Flt.len
  have HO1 := Lib.hid O1
  have HO2 := Lib.hid O2
  clear O1 O2
  have hs4 := Ext.size F4
  simp at hs4 hb
  have hgn : ¬ g = w4.heap.size := by omega
  have hgw : ¬ g = w.heap.size := by omega
  have hg1 : g ≠ w.heap.size + 1 := by omega
  have hgx : ¬ g = w3.heap.size := by omega
  have hwx : ¬ w4.heap.size = w3.heap.size := by omega
  have n3 : (Value.slice A2 fs.length k2).ownBlock ≠ some g := fun h => Own.apart HO2.out HO1.out (by decide) g h rfl
  have n4 : (Value.slice A2 fs.length k2).ownBlock ≠ some w4.heap.size := fun h => by have := (Own.lt HO2.out _ h).2; omega
  have BN := Lib.hid (Blk.new w4 30 #[.string n, .slice (some ⟨g, 0, none⟩) cs.length cap, (.slice A2 fs.length k2), .int .i64 d])
  have FB := (Ext.refl w4).alloc (.cells #[.string n, .slice (some ⟨g, 0, none⟩) cs.length cap, (.slice A2 fs.length k2), .int .i64 d] 30)
  go_wp2_with fail
  refine (slices_Delete_any cs D g cap _ u (u + 1) D.length _ (HO1.out.ext FB) (by omega) (by omega) (by omega) HDL.out HDT.out).mono ?_
  rintro e w5 ⟨rfl, O5, K5⟩
  have HO5 := Lib.hid O5
  clear O5
  have BN5 := Lib.hid (Blk.kb K5 BN.out (by omega))
  have BX5 := Lib.hid (Blk.kb K5 ((BXX.out.ext F4).ext FB) (by omega))
  have BR5 := Lib.hid (Blk.kb K5 ((BR.out.ext X4).ext FB) (fun h => hg1 h.symm))
  have HF5 := Lib.hid (Own.kb (HO2.out.ext FB) K5 (fun g' hg' h => n3 (by rw [hg', h])))
  have E5 := Ext.kb (E4.alloc (.cells #[.string n, .slice (some ⟨g, 0, none⟩) cs.length cap, (.slice A2 fs.length k2), .int .i64 d] 30)) K5 (fun i hi => by omega)
  have hs5 := K5.size
  simp at hs5
  -- the box takes the new slice
  have BN6 := Lib.hid (show Blk (w5.setCell ⟨w4.heap.size, 1, none⟩ (.slice (some ⟨g, 0, none⟩) D.length cap)) w4.heap.size 30 #[.string n, .slice (some ⟨g, 0, none⟩) D.length cap, (.slice A2 fs.length k2), .int .i64 d] by
    have := BN5.out.set_ 1 (.slice (some ⟨g, 0, none⟩) D.length cap)
    simpa using this)
  have hwx' : w4.heap.size ≠ w3.heap.size := hwx
  have hw41 : w4.heap.size ≠ w.heap.size + 1 := by omega
  have BX6 := Lib.hid (BX5.out.kept hwx' 1 (.slice (some ⟨g, 0, none⟩) D.length cap))
  have BR6 := Lib.hid (BR5.out.kept hw41 1 (.slice (some ⟨g, 0, none⟩) D.length cap))
  have HC6 := Lib.hid (HO5.out.setOff (b := w4.heap.size) (by simp [Value.ownBlock]; omega) 1 (.slice (some ⟨g, 0, none⟩) D.length cap))
  have HF6 := Lib.hid (HF5.out.setOff n4 1 (.slice (some ⟨g, 0, none⟩) D.length cap))
  have E6 : Ext w (w5.setCell ⟨w4.heap.size, 1, none⟩ (.slice (some ⟨g, 0, none⟩) D.length cap)) := by (repeat (first | (with_reducible exact Ext.refl _) | (with_reducible assumption) | (with_reducible apply Ext.alloc) | (with_reducible apply Ext.drew) | (with_reducible apply Ext.drewN) | ((with_reducible refine Ext.setCell ?_ ?_ _); rotate_left; (focus (first | (simp; done) | (simp; omega) | omega))) | (with_reducible refine Ext.trans ?_ (by assumption))))
  obtain ⟨⟨p0, p1, p2, p3⟩, ⟨g0, g1, g2, g3⟩, hp4⟩ := C4.blk BN5.out
  obtain ⟨x0, x1, x7, hx8⟩ := C8.blk BX5.out
  clear K5
  go_wp2_with fail
  clear p0 p1 p2 p3 g0 g1 g2 g3 hp4 x0 x1 x7 hx8
  refine (impl_indexOf_any n _ _ d x.parent D _ (Own.rd HC6.out Cls.len) hdl).mono ?_
  rintro e w6 ⟨rfl, F6⟩
  rcases findI_bd D x.parent with hp | ⟨p, hp, hpl⟩
  · have HP := Lib.hid (show upLim D x.parent x.limit = D by rw [upLim, show leafIdB D x.parent = false by simp [leafIdB, hp]]; rfl)
    rw [hp]
    clear hp
    obtain ⟨⟨p0, p1, p2, p3⟩, _, hp4⟩ := C4.blk (BN6.out.ext F6)
    have E7 := E6.trans F6
    have HR := Lib.hid (show drR n cs fs d id = ifR n D fs d from HDR.out _ HP.out)
    go_wp2_with fail
    refine (impl_ifConfig_any n _ _ _ _ _ _ d D fs _ (HK.out.ext E7) (Own.rd (HC6.out.ext F6) Cls.len) (Own.rd (HF6.out.ext F6) Flt.len) hzd).mono ?_
    rintro e wf ⟨rfl, FF⟩
    obtain ⟨⟨r0, r1, r2, r3⟩, ⟨f0, f1, f2, f3⟩, hfz⟩ := C4.blk ((BR6.out.ext F6).ext FF)
    go_wp2
    refine bodyPost_ret (v := .tuple #[ifV (goodB n D fs d) n (some ⟨g, 0, none⟩) D.length cap A2 fs.length k2 d, .bool (goodB n D fs d)]) (by simp [results, Tryd.results14, go_sem, *]) rfl (retC_eq HR.out (retC_if ?_ ?_ ?_))
    · refine Own.mono (base := w3.heap.size + 1) ?_ (by omega)
      repeat (with_reducible refine Own.setCell ?_ (by omega) _ _)
      exact Own.mono (Own.ext (HC6.out.ext F6) FF) (by first | exact Nat.le_refl _ | (simp; done) | omega)
    · refine Own.mono (base := w3.heap.size + 1) ?_ (by omega)
      repeat (with_reducible refine Own.setCell ?_ (by omega) _ _)
      exact Own.mono (Own.ext (HF6.out.ext F6) FF) (by first | exact Nat.le_refl _ | (simp; done) | omega)
    · have hx := Ext.trans E7 FF
      (repeat (first | (with_reducible exact Ext.refl _) | (with_reducible assumption) | (with_reducible apply Ext.alloc) | (with_reducible apply Ext.drew) | (with_reducible apply Ext.drewN) | ((with_reducible refine Ext.setCell ?_ ?_ _); rotate_left; (focus (first | (simp; done) | (simp; omega) | omega))) | (with_reducible refine Ext.trans ?_ (by assumption))))
  rw [hp]
  have HP := Lib.hid hp
  clear hp
  obtain ⟨⟨p0, p1, p2, p3⟩, _, hp4⟩ := C4.blk (BN6.out.ext F6)
  go_wp2_with fail
  clear p0 p1 p2 p3 hp4
  refine (impl_isLeaf_any n _ _ d p D _ (Own.rd (HC6.out.ext F6) Cls.len) hpl hdl).mono ?_
  rintro e w7 ⟨rfl, F7⟩
  have F67 := F6.trans F7
  have E7 := E6.trans F67
  obtain ⟨⟨p0, p1, p2, p3⟩, _, hp4⟩ := C4.blk (BN6.out.ext F67)
  cases hlp : leafB D p
  · have HLP := Lib.hid (show upLim D x.parent x.limit = D by rw [upLim, show leafIdB D x.parent = false by simp [leafIdB, HP.out, hlp]]; rfl)
    have HR := Lib.hid (show drR n cs fs d id = ifR n D fs d from HDR.out _ HLP.out)
    go_wp2_with fail
    refine (impl_ifConfig_any n _ _ _ _ _ _ d D fs _ (HK.out.ext E7) (Own.rd (HC6.out.ext F67) Cls.len) (Own.rd (HF6.out.ext F67) Flt.len) hzd).mono ?_
    rintro e wf ⟨rfl, FF⟩
    obtain ⟨⟨r0, r1, r2, r3⟩, ⟨f0, f1, f2, f3⟩, hfz⟩ := C4.blk ((BR6.out.ext F67).ext FF)
    go_wp2
    refine bodyPost_ret (v := .tuple #[ifV (goodB n D fs d) n (some ⟨g, 0, none⟩) D.length cap A2 fs.length k2 d, .bool (goodB n D fs d)]) (by simp [results, Tryd.results14, go_sem, *]) rfl (retC_eq HR.out (retC_if ?_ ?_ ?_))
    · refine Own.mono (base := w3.heap.size + 1) ?_ (by omega)
      repeat (with_reducible refine Own.setCell ?_ (by omega) _ _)
      exact Own.mono (Own.ext (HC6.out.ext F67) FF) (by first | exact Nat.le_refl _ | (simp; done) | omega)
    · refine Own.mono (base := w3.heap.size + 1) ?_ (by omega)
      repeat (with_reducible refine Own.setCell ?_ (by omega) _ _)
      exact Own.mono (Own.ext (HF6.out.ext F67) FF) (by first | exact Nat.le_refl _ | (simp; done) | omega)
    · have hx := Ext.trans E7 FF
      (repeat (first | (with_reducible exact Ext.refl _) | (with_reducible assumption) | (with_reducible apply Ext.alloc) | (with_reducible apply Ext.drew) | (with_reducible apply Ext.drewN) | ((with_reducible refine Ext.setCell ?_ ?_ _); rotate_left; (focus (first | (simp; done) | (simp; omega) | omega))) | (with_reducible refine Ext.trans ?_ (by assumption))))
  have HLP := Lib.hid (show upLim D x.parent x.limit = setLim D p x.limit by rw [upLim, show leafIdB D x.parent = true by simp [leafIdB, HP.out, hlp], HP.out]; rfl)
  obtain ⟨hcl, hfr⟩ := Own.cell_at (HC6.out.ext F67) p 7 D[p] (.int .i64 D[p].limit) (List.getElem?_eq_getElem hpl) Cls.len rfl
  obtain ⟨cs', HCS, OC⟩ : ∃ l, Hid (l = setLim D p x.limit) ∧ Hid (OwnC (w7.setCell ⟨g, p * 8 + 7, none⟩ (.int .i64 x.limit)) _ (.slice (some ⟨g, 0, none⟩) D.length cap) l) :=
    ⟨_, Lib.hid rfl, Lib.hid (by rw [setLim_at D p x.limit hpl]; exact Own.set_at' (HC6.out.ext F67) p 7 D[p] _ _ (List.getElem?_eq_getElem hpl) (by omega) Cls.len rfl)⟩
  have OF := Lib.hid ((HF6.out.ext F67).setOff n3 (p * 8 + 7) (.int .i64 x.limit))
  have BRC := Lib.hid ((BR6.out.ext F67).kept hg1 (p * 8 + 7) (.int .i64 x.limit))
  have EC : Ext w (w7.setCell ⟨g, p * 8 + 7, none⟩ (.int .i64 x.limit)) := by (repeat (first | (with_reducible exact Ext.refl _) | (with_reducible assumption) | (with_reducible apply Ext.alloc) | (with_reducible apply Ext.drew) | (with_reducible apply Ext.drewN) | ((with_reducible refine Ext.setCell ?_ ?_ _); rotate_left; (focus (first | (simp; done) | (simp; omega) | omega))) | (with_reducible refine Ext.trans ?_ (by assumption))))
  obtain ⟨x0, x1, x7, hx8⟩ := C8.blk (BX6.out.ext F67)
  have hzD := hzd
  have hzd : n.size + cs'.length + fs.length ≤ 1048576 := by rw [HCS.out, setLim_len]; exact hzD
  clear hlp
  have HR := Lib.hid (show drR n cs fs d id = ifR n cs' fs d from HDR.out _ (HLP.out.trans HCS.out.symm))
  go_wp2_with fail
  refine (impl_ifConfig_any n _ _ _ _ _ _ d cs' fs _ (HK.out.ext EC) (Own.rd OC.out Cls.len) (Own.rd OF.out Flt.len) hzd).mono ?_
  rintro e wf ⟨rfl, FF⟩
  obtain ⟨⟨r0, r1, r2, r3⟩, ⟨f0, f1, f2, f3⟩, hfz⟩ := C4.blk (BRC.out.ext FF)
  go_wp2
  refine bodyPost_ret (v := .tuple #[ifV (goodB n cs' fs d) n (some ⟨g, 0, none⟩) D.length cap A2 fs.length k2 d, .bool (goodB n cs' fs d)]) (by simp [results, Tryd.results14, go_sem, *]) rfl (retC_eq HR.out (retC_if ?_ ?_ ?_))
  · refine Own.mono (base := w3.heap.size + 1) ?_ (by omega)
    repeat (with_reducible refine Own.setCell ?_ (by omega) _ _)
    exact Own.mono (Own.ext OC.out FF) (by first | exact Nat.le_refl _ | (simp; done) | omega)
  · refine Own.mono (base := w3.heap.size + 1) ?_ (by omega)
    repeat (with_reducible refine Own.setCell ?_ (by omega) _ _)
    exact Own.mono (Own.ext OF.out FF) (by first | exact Nat.le_refl _ | (simp; done) | omega)
  · have hx := Ext.trans EC FF
    (repeat (first | (with_reducible exact Ext.refl _) | (with_reducible assumption) | (with_reducible apply Ext.alloc) | (with_reducible apply Ext.drew) | (with_reducible apply Ext.drewN) | ((with_reducible refine Ext.setCell ?_ ?_ _); rotate_left; (focus (first | (simp; done) | (simp; omega) | omega))) | (with_reducible refine Ext.trans ?_ (by assumption))))
end Go.Proofs.YtidahgoihgodnaaDoor
