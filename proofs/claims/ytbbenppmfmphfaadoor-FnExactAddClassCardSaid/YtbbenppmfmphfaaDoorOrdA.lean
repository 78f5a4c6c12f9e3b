/- AddClass: contracts of both sides. Printed by wip/tools/gen_ord.py. -/
import Derived.Test.YtbbenppmfmphfaaDoorOrdI
namespace Go.Proofs.YtbbenppmfmphfaaDoor
open Go.RowKit
set_option maxRecDepth 20000
set_option maxHeartbeats 1000000
set_option linter.unusedSimpArgs false
set_option linter.unusedVariables false

theorem good_name {n : ByteArray} {cs : List Cls} {fs : List Flt} {d : Int} (h : goodB n cs fs d = true) : n.size ≤ 8 := by
  have h1 := good_cond h 1 (by omega) (by omega)
  simp only [condB, nameB, Bool.and_eq_true, decide_eq_true_eq] at h1
  omega
theorem impl_AddClass_any (n : ByteArray) (cv fv : Value) (d : Int) (x : Cls) (cs : List Cls) (fs : List Flt) (w : World) (hk : Keys w) (hc : SrcC w cv cs) (hf : SrcF w fv fs) (hz : n.size + cs.length + fs.length ≤ 1048576) :
    Calls Tryd.prog 9 #[cfgV n cv fv d, clsV x] w (RetC (addR n cs fs d x) w) := by
  have HC := Lib.hid hc
  have HF := Lib.hid hf
  have HK := Lib.hid hk
  obtain ⟨CA, cc, hcv, _, _⟩ := Src.rd hc
  obtain ⟨FA, fc, hfv, _, _⟩ := Src.rd hf
  subst hcv hfv
  clear hc hf hk
  have E0 : Ext w (((w.alloc (.cells #[.string n, .slice CA cs.length cc, .slice FA fs.length fc, .int .i64 d] 32)).alloc (.cells #[.int .i64 x.id, .int .i64 x.parent, .int .i64 x.rate, .int .i64 x.ceil, .int .i64 x.burst, .int .i64 x.cburst, .int .i64 x.prio, .int .i64 x.limit] 36)).alloc (.cells #[.string ⟨#[]⟩, .slice none 0 0, .slice none 0 0, .int .i64 0] 32)) := by (repeat (first | (with_reducible exact Ext.refl _) | (with_reducible assumption) | (with_reducible apply Ext.alloc) | (with_reducible apply Ext.drew) | (with_reducible apply Ext.drewN) | ((with_reducible refine Ext.setCell ?_ ?_ _); rotate_left; (focus (first | (simp; done) | (simp; omega) | omega))) | (with_reducible refine Ext.trans ?_ (by assumption))))
  have BX := Lib.hid ((Box.new w n (.slice CA cs.length cc) (.slice FA fs.length fc) d 32).ext (((Ext.refl _).alloc (.cells #[.int .i64 x.id, .int .i64 x.parent, .int .i64 x.rate, .int .i64 x.ceil, .int .i64 x.burst, .int .i64 x.cburst, .int .i64 x.prio, .int .i64 x.limit] 36)).alloc (.cells #[.string ⟨#[]⟩, .slice none 0 0, .slice none 0 0, .int .i64 0] 32)))
  have BXX := Lib.hid (show Blk (((w.alloc (.cells #[.string n, .slice CA cs.length cc, .slice FA fs.length fc, .int .i64 d] 32)).alloc (.cells #[.int .i64 x.id, .int .i64 x.parent, .int .i64 x.rate, .int .i64 x.ceil, .int .i64 x.burst, .int .i64 x.cburst, .int .i64 x.prio, .int .i64 x.limit] 36)).alloc (.cells #[.string ⟨#[]⟩, .slice none 0 0, .slice none 0 0, .int .i64 0] 32)) (w.heap.size + 1) 36 #[.int .i64 x.id, .int .i64 x.parent, .int .i64 x.rate, .int .i64 x.ceil, .int .i64 x.burst, .int .i64 x.cburst, .int .i64 x.prio, .int .i64 x.limit] by
    have := (Blk.new (w.alloc (.cells #[.string n, .slice CA cs.length cc, .slice FA fs.length fc, .int .i64 d] 32)) 36 #[.int .i64 x.id, .int .i64 x.parent, .int .i64 x.rate, .int .i64 x.ceil, .int .i64 x.burst, .int .i64 x.cburst, .int .i64 x.prio, .int .i64 x.limit]).ext ((Ext.refl _).alloc (.cells #[.string ⟨#[]⟩, .slice none 0 0, .slice none 0 0, .int .i64 0] 32))
    simpa using this)
  have BR := Lib.hid (show Blk (((w.alloc (.cells #[.string n, .slice CA cs.length cc, .slice FA fs.length fc, .int .i64 d] 32)).alloc (.cells #[.int .i64 x.id, .int .i64 x.parent, .int .i64 x.rate, .int .i64 x.ceil, .int .i64 x.burst, .int .i64 x.cburst, .int .i64 x.prio, .int .i64 x.limit] 36)).alloc (.cells #[.string ⟨#[]⟩, .slice none 0 0, .slice none 0 0, .int .i64 0] 32)) (w.heap.size + 2) 32 #[.string ⟨#[]⟩, .slice none 0 0, .slice none 0 0, .int .i64 0] by
    have := Blk.new ((w.alloc (.cells #[.string n, .slice CA cs.length cc, .slice FA fs.length fc, .int .i64 d] 32)).alloc (.cells #[.int .i64 x.id, .int .i64 x.parent, .int .i64 x.rate, .int .i64 x.ceil, .int .i64 x.burst, .int .i64 x.cburst, .int .i64 x.prio, .int .i64 x.limit] 36)) 32 #[.string ⟨#[]⟩, .slice none 0 0, .slice none 0 0, .int .i64 0]
    simpa using this)
  go_enter Tryd.func9, Tryd.ntmps9
  go_wp2_with fail
  refine (impl_IsConfig_any n _ _ d cs fs _ (HK.out.ext E0) ((Src.rd HC.out).ext E0) ((Src.rd HF.out).ext E0) hz).mono ?_
  rintro e w1 ⟨rfl, X1⟩
  have E1 := E0.trans X1
  have hs1 := Ext.size X1
  simp at hs1
  cases hr : goodB n cs fs d
  · have HR := Lib.hid (addR_no (x := x) hr)
    obtain ⟨⟨r0, r1, r2, r3⟩, ⟨f0, f1, f2, f3⟩, hfz⟩ := C4.blk (BR.out.ext X1)
    go_wp2
    refine bodyPost_ret (v := .tuple #[cfgV ⟨#[]⟩ (.slice none 0 0) (.slice none 0 0) 0, .bool false]) (by simp [results, Tryd.results9, go_sem, *]) rfl (retC_no HR.out ?_)
    (repeat (first | (with_reducible exact Ext.refl _) | (with_reducible assumption) | (with_reducible apply Ext.alloc) | (with_reducible apply Ext.drew) | (with_reducible apply Ext.drewN) | ((with_reducible refine Ext.setCell ?_ ?_ _); rotate_left; (focus (first | (simp; done) | (simp; omega) | omega))) | (with_reducible refine Ext.trans ?_ (by assumption))))
  have HRW := Lib.hid hr
  have HLEN := Lib.hid (good_len hr)
  have hn8 : n.size ≤ 8 := good_name hr
  obtain ⟨hl1, hl24, hf16⟩ := good_len hr
  obtain ⟨q0, q1, q2, q3, q4⟩ := BX.out.ext X1
  by_cases h24 : cs.length = 24
  · have HR := Lib.hid (addR_full (n := n) (fs := fs) (d := d) (x := x) h24)
    have hb24 : ((cs.length : Int) == 24) = true := by simp; omega
    clear h24
    obtain ⟨⟨r0, r1, r2, r3⟩, ⟨f0, f1, f2, f3⟩, hfz⟩ := C4.blk (BR.out.ext X1)
    go_wp2
    refine bodyPost_ret (v := .tuple #[cfgV ⟨#[]⟩ (.slice none 0 0) (.slice none 0 0) 0, .bool false]) (by simp [results, Tryd.results9, go_sem, *]) rfl (retC_no HR.out ?_)
    (repeat (first | (with_reducible exact Ext.refl _) | (with_reducible assumption) | (with_reducible apply Ext.alloc) | (with_reducible apply Ext.drew) | (with_reducible apply Ext.drewN) | ((with_reducible refine Ext.setCell ?_ ?_ _); rotate_left; (focus (first | (simp; done) | (simp; omega) | omega))) | (with_reducible refine Ext.trans ?_ (by assumption))))
  have hb24 : ((cs.length : Int) == 24) = false := by simp; omega
  have hl23 : cs.length ≤ 23 := by omega
  clear h24
  go_wp2_with fail
  clear q0 q1 q2 q3 q4
  refine (impl_cloneConfig_any n _ _ d cs fs _ (HC.out.ext E1) (HF.out.ext E1) (by omega) (by omega)).mono ?_
  rintro e w4 ⟨u1, u2, rfl, O1, O2, F4⟩
  have X4 := X1.trans F4
  have E4 := E0.trans X4
  obtain ⟨g, cap, cells, rfl, hb, hglt, _, _, _, _, _⟩ := Own.blk O1 (by omega)
  obtain ⟨A2, n2, k2, rfl⟩ := Own.form O2 Flt.len
  have HO1 := Lib.hid O1
  have HO2 := Lib.hid O2
  clear O1 O2
  have hs4 := Ext.size F4
  have n3 : (Value.slice A2 n2 k2).ownBlock ≠ some g := fun h => Own.apart HO2.out HO1.out (by decide) g h rfl
  have FB := (Ext.refl w4).alloc (.cells #[.string n, (.slice (some ⟨g, 0, none⟩) cs.length cap), (.slice A2 n2 k2), .int .i64 d] 32)
  have OB1 := Lib.hid (HO1.out.ext FB)
  have OB2 := Lib.hid (HO2.out.ext FB)
  have BN := Lib.hid (Blk.new w4 32 #[.string n, (.slice (some ⟨g, 0, none⟩) cs.length cap), (.slice A2 n2 k2), .int .i64 d])
  have XB := X4.trans FB
  have EB := E0.trans XB
  have hsB := Ext.size FB
  simp at hsB
  have hg1 : g ≠ w.heap.size + 2 := by omega
  have hgn : g ≠ w4.heap.size := by omega
  have hgx : g ≠ w.heap.size + 1 := by omega
  have hgw : ¬ g = w.heap.size := by omega
  have hgn' : ¬ g = w4.heap.size := hgn
  have hgx' : ¬ g = w.heap.size + 1 := hgx
  obtain ⟨q0, q1, q2, q3, q4⟩ := BX.out.ext X4
  obtain ⟨x0, x1, x2, x3, x4, x5, x6, x7, xg⟩ := bcC (BXX.out.ext X4)
  clear hr
  go_wp2_with fail
  clear q0 q1 q2 q3 q4 x0 x1 x2 x3 x4 x5 x6 x7 xg
  refine (impl_indexOf_any n _ _ d x.parent cs _ ((Src.rd HC.out).ext EB) (by omega)).mono ?_
  rintro e w5 ⟨rfl, F5⟩
  rcases findI_bd cs x.parent with hu | ⟨u, hu, hul⟩
  · have HAL := Lib.hid (show addL cs x = cs ++ [x] by simp [addL, hu])
    rw [hu]
    clear hu
    have E5 := EB.trans F5
    obtain ⟨⟨p0, p1, p2, p3⟩, ⟨g0, g1, g2, g3⟩, hp⟩ := C4.blk (BN.out.ext F5)
    obtain ⟨x0, x1, x2, x3, x4, x5, x6, x7, xg⟩ := bcC (BXX.out.ext (XB.trans F5))
    have hAl : Hid (cs.length ≤ 24) := Lib.hid hl24
    go_wp2_with (at_builtin; refine app_gC (y := x) (bs := w1.heap.size) (Own.ext (OB1.out.ext F5) (by (repeat (first | (with_reducible exact Ext.refl _) | (with_reducible assumption) | (with_reducible apply Ext.alloc) | (with_reducible apply Ext.drew) | (with_reducible apply Ext.drewN) | ((with_reducible refine Ext.setCell ?_ ?_ _); rotate_left; (focus (first | (simp; done) | (simp; omega) | omega))) | (with_reducible refine Ext.trans ?_ (by assumption)))))) (by have := hAl.out; omega) (by first | omega | (simp; done) | (simp; omega)) rfl rfl rfl (by first | rfl | (show Value.slice _ _ _ = _; simp; done)) ?_; intro v2 w7 hown2 hG2; obtain ⟨A3, n3', k3, rfl⟩ := Own.form hown2 Cls.len; have HO7 := Lib.hid hown2; have BN7 := Lib.hid ((Blk.ext (BN.out.ext F5) ((Ext.refl _).alloc _)).grown hG2 (fun e => Own.ne_blk (OB1.out.ext F5) (BN.out.ext F5) (by decide) e)); have BR7 := Lib.hid ((Blk.ext (BR.out.ext (XB.trans F5)) ((Ext.refl _).alloc _)).grown hG2 (fun e => Own.ne_blk (OB1.out.ext F5) (BR.out.ext (XB.trans F5)) (by decide) e)); have HF7 := Lib.hid ((Own.ext (OB2.out.ext F5) ((Ext.refl _).alloc _)).kept hG2 (fun g hg => .inr (fun h => Own.apart (OB2.out.ext F5) (OB1.out.ext F5) (by decide) g h hg))); have E7 := Ext.grown (Ext.alloc (E5) _) hG2 (fun g' hg' => by have := (Own.lt (OB1.out.ext F5) g' hg').1; omega); have hs7 := hG2.size; clear hown2 hG2 p0 p1 p2 p3 g0 g1 g2 g3 hp; obtain ⟨⟨p0, p1, p2, p3⟩, ⟨g0, g1, g2, g3⟩, hp⟩ := C4.blk BN7.out)
    clear p0 p1 p2 p3 g0 g1 g2 g3 x0 x1 x2 x3 x4 x5 x6 x7 xg
    have BN8 := Lib.hid (show Blk (w7.setCell ⟨w4.heap.size, 1, none⟩ (.slice A3 n3' k3)) w4.heap.size 32 #[.string n, .slice A3 n3' k3, (.slice A2 n2 k2), .int .i64 d] by
      have := BN7.out.set_ 1 (.slice A3 n3' k3)
      simpa using this)
    have HO8 := Lib.hid (HO7.out.setOff (Own.ne_blk HO7.out BN7.out (by decide)) 1 (.slice A3 n3' k3))
    have HF8 := Lib.hid (HF7.out.setOff (Own.ne_blk HF7.out BN7.out (by decide)) 1 (.slice A3 n3' k3))
    have hw42 : w4.heap.size ≠ w.heap.size + 2 := by omega
    have BR8 := Lib.hid (BR7.out.kept hw42 1 (.slice A3 n3' k3))
    have E8 : Ext w (w7.setCell ⟨w4.heap.size, 1, none⟩ (.slice A3 n3' k3)) := by (repeat (first | (with_reducible exact Ext.refl _) | (with_reducible assumption) | (with_reducible apply Ext.alloc) | (with_reducible apply Ext.drew) | (with_reducible apply Ext.drewN) | ((with_reducible refine Ext.setCell ?_ ?_ _); rotate_left; (focus (first | (simp; done) | (simp; omega) | omega))) | (with_reducible refine Ext.trans ?_ (by assumption))))
    refine (impl_sortConfig_any w4.heap.size _ n _ _ d (cs ++ [x]) fs _ BN8.out HO8.out HF8.out (by have := hAl.out; simp; omega) (by omega)).mono ?_
    rintro e w9 ⟨rfl, L, F, O9, G9, pL, sL, pF, sF, B9, K9⟩
    have HR := Lib.hid (addR_is (x := x) HRW.out sL sF (by rw [HAL.out]; exact pL) pF)
    have hzL : n.size + L.length + F.length ≤ 1048576 := by
      have h1 := hAl.out
      have h2 := HLEN.out
      have h3 := pL.length_eq
      have h4 := pF.length_eq
      simp at h3
      omega
    have HO9 := Lib.hid O9
    have HG9 := Lib.hid G9
    have hlo : ∀ i, ((Value.slice A3 n3' k3).ownBlock = some i ∨ (Value.slice A2 n2 k2).ownBlock = some i) → w1.heap.size ≤ i := fun i hi => hi.elim (fun h => (Own.lt HO8.out i h).1) (fun h => (Own.lt HF8.out i h).1)
    have BR9 := Lib.hid (Blk.kb K9 BR8.out (fun h => by have := hlo _ h; omega))
    have E9 := Ext.kb E8 K9 (fun i hi => by have := hlo i hi; omega)
    obtain ⟨⟨p0, p1, p2, p3⟩, _, hp'⟩ := C4.blk B9
    clear O9 G9 pL sL pF sF B9 K9
    go_wp2_with fail
    clear p0 p1 p2 p3 hp'
    refine (impl_ifConfig_any n _ _ _ _ _ _ d L F _ (HK.out.ext E9) (Own.rd HO9.out Cls.len) (Own.rd HG9.out Flt.len) hzL).mono ?_
    rintro e wf ⟨rfl, FF⟩
    obtain ⟨⟨r0, r1, r2, r3⟩, ⟨f0, f1, f2, f3⟩, hfz⟩ := C4.blk (BR9.out.ext FF)
    go_wp2
    refine bodyPost_ret (v := .tuple #[ifV (goodB n L F d) n A3 n3' k3 A2 n2 k2 d, .bool (goodB n L F d)]) (by simp [results, Tryd.results9, go_sem, *]) rfl (retC_eq HR.out (retC_if ?_ ?_ ?_))
    · refine Own.mono (base := w1.heap.size) ?_ (by omega)
      repeat (with_reducible refine Own.setCell ?_ (by omega) _ _)
      exact HO9.out.ext FF
    · refine Own.mono (base := w1.heap.size) ?_ (by omega)
      repeat (with_reducible refine Own.setCell ?_ (by omega) _ _)
      exact HG9.out.ext FF
    · (repeat (first | (with_reducible exact Ext.refl _) | (with_reducible assumption) | (with_reducible apply Ext.alloc) | (with_reducible apply Ext.drew) | (with_reducible apply Ext.drewN) | ((with_reducible refine Ext.setCell ?_ ?_ _); rotate_left; (focus (first | (simp; done) | (simp; omega) | omega))) | (with_reducible refine Ext.trans ?_ (by assumption))))
  have HU := Lib.hid hu
  rw [hu]
  clear hu
  obtain ⟨q0, q1, q2, q3, q4⟩ := BX.out.ext (XB.trans F5)
  go_wp2_with fail
  clear q0 q1 q2 q3 q4
  refine (impl_isLeaf_any n _ _ d u cs _ ((Src.rd HC.out).ext (EB.trans F5)) hul (by omega)).mono ?_
  rintro e w6 ⟨rfl, F6⟩
  have F56 := F5.trans F6
  have E6 := EB.trans F56
  cases hlf : leafB cs u
  · have HAL := Lib.hid (show addL cs x = cs ++ [x] by
      have := good_lim HRW.out hul hlf
      simp [addL, HU.out, this])
    obtain ⟨⟨p0, p1, p2, p3⟩, ⟨g0, g1, g2, g3⟩, hp⟩ := C4.blk (BN.out.ext F56)
    obtain ⟨x0, x1, x2, x3, x4, x5, x6, x7, xg⟩ := bcC (BXX.out.ext (XB.trans F56))
    have hAl : Hid (cs.length ≤ 24) := Lib.hid hl24
    go_wp2_with (at_builtin; refine app_gC (y := x) (bs := w1.heap.size) (Own.ext (OB1.out.ext F56) (by (repeat (first | (with_reducible exact Ext.refl _) | (with_reducible assumption) | (with_reducible apply Ext.alloc) | (with_reducible apply Ext.drew) | (with_reducible apply Ext.drewN) | ((with_reducible refine Ext.setCell ?_ ?_ _); rotate_left; (focus (first | (simp; done) | (simp; omega) | omega))) | (with_reducible refine Ext.trans ?_ (by assumption)))))) (by have := hAl.out; omega) (by first | omega | (simp; done) | (simp; omega)) rfl rfl rfl (by first | rfl | (show Value.slice _ _ _ = _; simp; done)) ?_; intro v2 w7 hown2 hG2; obtain ⟨A3, n3', k3, rfl⟩ := Own.form hown2 Cls.len; have HO7 := Lib.hid hown2; have BN7 := Lib.hid ((Blk.ext (BN.out.ext F56) ((Ext.refl _).alloc _)).grown hG2 (fun e => Own.ne_blk (OB1.out.ext F56) (BN.out.ext F56) (by decide) e)); have BR7 := Lib.hid ((Blk.ext (BR.out.ext (XB.trans F56)) ((Ext.refl _).alloc _)).grown hG2 (fun e => Own.ne_blk (OB1.out.ext F56) (BR.out.ext (XB.trans F56)) (by decide) e)); have HF7 := Lib.hid ((Own.ext (OB2.out.ext F56) ((Ext.refl _).alloc _)).kept hG2 (fun g hg => .inr (fun h => Own.apart (OB2.out.ext F56) (OB1.out.ext F56) (by decide) g h hg))); have E7 := Ext.grown (Ext.alloc (E6) _) hG2 (fun g' hg' => by have := (Own.lt (OB1.out.ext F56) g' hg').1; omega); have hs7 := hG2.size; clear hown2 hG2 p0 p1 p2 p3 g0 g1 g2 g3 hp; obtain ⟨⟨p0, p1, p2, p3⟩, ⟨g0, g1, g2, g3⟩, hp⟩ := C4.blk BN7.out)
    clear p0 p1 p2 p3 g0 g1 g2 g3 x0 x1 x2 x3 x4 x5 x6 x7 xg
    have BN8 := Lib.hid (show Blk (w7.setCell ⟨w4.heap.size, 1, none⟩ (.slice A3 n3' k3)) w4.heap.size 32 #[.string n, .slice A3 n3' k3, (.slice A2 n2 k2), .int .i64 d] by
      have := BN7.out.set_ 1 (.slice A3 n3' k3)
      simpa using this)
    have HO8 := Lib.hid (HO7.out.setOff (Own.ne_blk HO7.out BN7.out (by decide)) 1 (.slice A3 n3' k3))
    have HF8 := Lib.hid (HF7.out.setOff (Own.ne_blk HF7.out BN7.out (by decide)) 1 (.slice A3 n3' k3))
    have hw42 : w4.heap.size ≠ w.heap.size + 2 := by omega
    have BR8 := Lib.hid (BR7.out.kept hw42 1 (.slice A3 n3' k3))
    have E8 : Ext w (w7.setCell ⟨w4.heap.size, 1, none⟩ (.slice A3 n3' k3)) := by (repeat (first | (with_reducible exact Ext.refl _) | (with_reducible assumption) | (with_reducible apply Ext.alloc) | (with_reducible apply Ext.drew) | (with_reducible apply Ext.drewN) | ((with_reducible refine Ext.setCell ?_ ?_ _); rotate_left; (focus (first | (simp; done) | (simp; omega) | omega))) | (with_reducible refine Ext.trans ?_ (by assumption))))
    refine (impl_sortConfig_any w4.heap.size _ n _ _ d (cs ++ [x]) fs _ BN8.out HO8.out HF8.out (by have := hAl.out; simp; omega) (by omega)).mono ?_
    rintro e w9 ⟨rfl, L, F, O9, G9, pL, sL, pF, sF, B9, K9⟩
    have HR := Lib.hid (addR_is (x := x) HRW.out sL sF (by rw [HAL.out]; exact pL) pF)
    have hzL : n.size + L.length + F.length ≤ 1048576 := by
      have h1 := hAl.out
      have h2 := HLEN.out
      have h3 := pL.length_eq
      have h4 := pF.length_eq
      simp at h3
      omega
    have HO9 := Lib.hid O9
    have HG9 := Lib.hid G9
    have hlo : ∀ i, ((Value.slice A3 n3' k3).ownBlock = some i ∨ (Value.slice A2 n2 k2).ownBlock = some i) → w1.heap.size ≤ i := fun i hi => hi.elim (fun h => (Own.lt HO8.out i h).1) (fun h => (Own.lt HF8.out i h).1)
    have BR9 := Lib.hid (Blk.kb K9 BR8.out (fun h => by have := hlo _ h; omega))
    have E9 := Ext.kb E8 K9 (fun i hi => by have := hlo i hi; omega)
    obtain ⟨⟨p0, p1, p2, p3⟩, _, hp'⟩ := C4.blk B9
    clear O9 G9 pL sL pF sF B9 K9
    go_wp2_with fail
    clear p0 p1 p2 p3 hp'
    refine (impl_ifConfig_any n _ _ _ _ _ _ d L F _ (HK.out.ext E9) (Own.rd HO9.out Cls.len) (Own.rd HG9.out Flt.len) hzL).mono ?_
    rintro e wf ⟨rfl, FF⟩
    obtain ⟨⟨r0, r1, r2, r3⟩, ⟨f0, f1, f2, f3⟩, hfz⟩ := C4.blk (BR9.out.ext FF)
    go_wp2
    refine bodyPost_ret (v := .tuple #[ifV (goodB n L F d) n A3 n3' k3 A2 n2 k2 d, .bool (goodB n L F d)]) (by simp [results, Tryd.results9, go_sem, *]) rfl (retC_eq HR.out (retC_if ?_ ?_ ?_))
    · refine Own.mono (base := w1.heap.size) ?_ (by omega)
      repeat (with_reducible refine Own.setCell ?_ (by omega) _ _)
      exact HO9.out.ext FF
    · refine Own.mono (base := w1.heap.size) ?_ (by omega)
      repeat (with_reducible refine Own.setCell ?_ (by omega) _ _)
      exact HG9.out.ext FF
    · (repeat (first | (with_reducible exact Ext.refl _) | (with_reducible assumption) | (with_reducible apply Ext.alloc) | (with_reducible apply Ext.drew) | (with_reducible apply Ext.drewN) | ((with_reducible refine Ext.setCell ?_ ?_ _); rotate_left; (focus (first | (simp; done) | (simp; omega) | omega))) | (with_reducible refine Ext.trans ?_ (by assumption))))
  obtain ⟨hcl, hfr⟩ := Own.cell_at (OB1.out.ext F56) u 7 cs[u] (.int .i64 cs[u].limit) (List.getElem?_eq_getElem hul) Cls.len rfl
  obtain ⟨cs', HCS, OC⟩ : ∃ l, Hid (l = setLim cs u 0) ∧ Hid (OwnC (w6.setCell ⟨g, u * 8 + 7, none⟩ (.int .i64 0)) w1.heap.size (.slice (some ⟨g, 0, none⟩) cs.length cap) l) :=
    ⟨_, Lib.hid rfl, Lib.hid (by rw [setLim_at cs u 0 hul]; exact Own.set_at' (OB1.out.ext F56) u 7 cs[u] _ _ (List.getElem?_eq_getElem hul) (by omega) Cls.len rfl)⟩
  have OF := Lib.hid ((OB2.out.ext F56).setOff n3 (u * 8 + 7) (.int .i64 0))
  have BNC := Lib.hid ((BN.out.ext F56).kept hgn (u * 8 + 7) (.int .i64 0))
  have BXC := Lib.hid ((BXX.out.ext (XB.trans F56)).kept hgx (u * 8 + 7) (.int .i64 0))
  have BRC := Lib.hid ((BR.out.ext (XB.trans F56)).kept hg1 (u * 8 + 7) (.int .i64 0))
  have EC : Ext w (w6.setCell ⟨g, u * 8 + 7, none⟩ (.int .i64 0)) := by (repeat (first | (with_reducible exact Ext.refl _) | (with_reducible assumption) | (with_reducible apply Ext.alloc) | (with_reducible apply Ext.drew) | (with_reducible apply Ext.drewN) | ((with_reducible refine Ext.setCell ?_ ?_ _); rotate_left; (focus (first | (simp; done) | (simp; omega) | omega))) | (with_reducible refine Ext.trans ?_ (by assumption))))
  have HAL := Lib.hid (show addL cs x = cs' ++ [x] by rw [HCS.out]; simp [addL, HU.out])
  have HCL := Lib.hid (show cs'.length ≤ 24 by rw [HCS.out, setLim_len]; exact hl24)
  obtain ⟨⟨m0, m1, m2, m3⟩, _, hm⟩ := C4.blk (BN.out.ext F56)
  obtain ⟨y0, y1, y2, y3, y4, y5, y6, y7, yg⟩ := bcC (BXX.out.ext (XB.trans F56))
  clear hlf
  obtain ⟨⟨p0, p1, p2, p3⟩, ⟨g0, g1, g2, g3⟩, hp⟩ := C4.blk (BNC.out)
  obtain ⟨x0, x1, x2, x3, x4, x5, x6, x7, xg⟩ := bcC (BXC.out)
  have hAl : Hid (cs'.length ≤ 24) := HCL
  go_wp2_with (at_builtin; refine app_gC (y := x) (bs := w1.heap.size) (Own.ext (OC.out) (by (repeat (first | (with_reducible exact Ext.refl _) | (with_reducible assumption) | (with_reducible apply Ext.alloc) | (with_reducible apply Ext.drew) | (with_reducible apply Ext.drewN) | ((with_reducible refine Ext.setCell ?_ ?_ _); rotate_left; (focus (first | (simp; done) | (simp; omega) | omega))) | (with_reducible refine Ext.trans ?_ (by assumption)))))) (by have := hAl.out; omega) (by first | omega | (simp; done) | (simp; omega)) rfl rfl rfl (by first | rfl | (show Value.slice _ _ _ = _; simp; done)) ?_; intro v2 w7 hown2 hG2; obtain ⟨A3, n3', k3, rfl⟩ := Own.form hown2 Cls.len; have HO7 := Lib.hid hown2; have BN7 := Lib.hid ((Blk.ext (BNC.out) ((Ext.refl _).alloc _)).grown hG2 (fun e => Own.ne_blk (OC.out) (BNC.out) (by decide) e)); have BR7 := Lib.hid ((Blk.ext (BRC.out) ((Ext.refl _).alloc _)).grown hG2 (fun e => Own.ne_blk (OC.out) (BRC.out) (by decide) e)); have HF7 := Lib.hid ((Own.ext (OF.out) ((Ext.refl _).alloc _)).kept hG2 (fun g hg => .inr (fun h => Own.apart (OF.out) (OC.out) (by decide) g h hg))); have E7 := Ext.grown (Ext.alloc (EC) _) hG2 (fun g' hg' => by have := (Own.lt (OC.out) g' hg').1; omega); have hs7 := hG2.size; clear hown2 hG2 p0 p1 p2 p3 g0 g1 g2 g3 hp; obtain ⟨⟨p0, p1, p2, p3⟩, ⟨g0, g1, g2, g3⟩, hp⟩ := C4.blk BN7.out)
  clear p0 p1 p2 p3 g0 g1 g2 g3 x0 x1 x2 x3 x4 x5 x6 x7 xg
  have BN8 := Lib.hid (show Blk (w7.setCell ⟨w4.heap.size, 1, none⟩ (.slice A3 n3' k3)) w4.heap.size 32 #[.string n, .slice A3 n3' k3, (.slice A2 n2 k2), .int .i64 d] by
    have := BN7.out.set_ 1 (.slice A3 n3' k3)
    simpa using this)
  have HO8 := Lib.hid (HO7.out.setOff (Own.ne_blk HO7.out BN7.out (by decide)) 1 (.slice A3 n3' k3))
  have HF8 := Lib.hid (HF7.out.setOff (Own.ne_blk HF7.out BN7.out (by decide)) 1 (.slice A3 n3' k3))
  have hw42 : w4.heap.size ≠ w.heap.size + 2 := by omega
  have BR8 := Lib.hid (BR7.out.kept hw42 1 (.slice A3 n3' k3))
  have E8 : Ext w (w7.setCell ⟨w4.heap.size, 1, none⟩ (.slice A3 n3' k3)) := by (repeat (first | (with_reducible exact Ext.refl _) | (with_reducible assumption) | (with_reducible apply Ext.alloc) | (with_reducible apply Ext.drew) | (with_reducible apply Ext.drewN) | ((with_reducible refine Ext.setCell ?_ ?_ _); rotate_left; (focus (first | (simp; done) | (simp; omega) | omega))) | (with_reducible refine Ext.trans ?_ (by assumption))))
  refine (impl_sortConfig_any w4.heap.size _ n _ _ d (cs' ++ [x]) fs _ BN8.out HO8.out HF8.out (by have := hAl.out; simp; omega) (by omega)).mono ?_
  rintro e w9 ⟨rfl, L, F, O9, G9, pL, sL, pF, sF, B9, K9⟩
  have HR := Lib.hid (addR_is (x := x) HRW.out sL sF (by rw [HAL.out]; exact pL) pF)
  have hzL : n.size + L.length + F.length ≤ 1048576 := by
    have h1 := hAl.out
    have h2 := HLEN.out
    have h3 := pL.length_eq
    have h4 := pF.length_eq
    simp at h3
    omega
  have HO9 := Lib.hid O9
  have HG9 := Lib.hid G9
  have hlo : ∀ i, ((Value.slice A3 n3' k3).ownBlock = some i ∨ (Value.slice A2 n2 k2).ownBlock = some i) → w1.heap.size ≤ i := fun i hi => hi.elim (fun h => (Own.lt HO8.out i h).1) (fun h => (Own.lt HF8.out i h).1)
  have BR9 := Lib.hid (Blk.kb K9 BR8.out (fun h => by have := hlo _ h; omega))
  have E9 := Ext.kb E8 K9 (fun i hi => by have := hlo i hi; omega)
  obtain ⟨⟨p0, p1, p2, p3⟩, _, hp'⟩ := C4.blk B9
  clear O9 G9 pL sL pF sF B9 K9
  go_wp2_with fail
  clear p0 p1 p2 p3 hp'
  refine (impl_ifConfig_any n _ _ _ _ _ _ d L F _ (HK.out.ext E9) (Own.rd HO9.out Cls.len) (Own.rd HG9.out Flt.len) hzL).mono ?_
  rintro e wf ⟨rfl, FF⟩
  obtain ⟨⟨r0, r1, r2, r3⟩, ⟨f0, f1, f2, f3⟩, hfz⟩ := C4.blk (BR9.out.ext FF)
  go_wp2
  refine bodyPost_ret (v := .tuple #[ifV (goodB n L F d) n A3 n3' k3 A2 n2 k2 d, .bool (goodB n L F d)]) (by simp [results, Tryd.results9, go_sem, *]) rfl (retC_eq HR.out (retC_if ?_ ?_ ?_))
  · refine Own.mono (base := w1.heap.size) ?_ (by omega)
    repeat (with_reducible refine Own.setCell ?_ (by omega) _ _)
    exact HO9.out.ext FF
  · refine Own.mono (base := w1.heap.size) ?_ (by omega)
    repeat (with_reducible refine Own.setCell ?_ (by omega) _ _)
    exact HG9.out.ext FF
  · (repeat (first | (with_reducible exact Ext.refl _) | (with_reducible assumption) | (with_reducible apply Ext.alloc) | (with_reducible apply Ext.drew) | (with_reducible apply Ext.drewN) | ((with_reducible refine Ext.setCell ?_ ?_ _); rotate_left; (focus (first | (simp; done) | (simp; omega) | omega))) | (with_reducible refine Ext.trans ?_ (by assumption))))
theorem kF_setLim (cs : List Cls) (u : Nat) (v : Int) (i : Nat) : kF (fun x : Cls => x.id) (setLim cs u v) i = kF (fun x : Cls => x.id) cs i := by
  by_cases hu : u < cs.length
  · rw [setLim_at cs u v hu]
    unfold kF
    rw [List.getElem?_set]
    by_cases e : u = i
    · subst e
      rw [if_pos rfl, if_pos hu, List.getElem?_eq_getElem hu]
    · rw [if_neg e]
  · unfold setLim
    rw [List.getElem?_eq_none (by omega)]
theorem asc_setLim {cs : List Cls} (u : Nat) (v : Int) (h : Asc (fun x : Cls => x.id) cs) : Asc (fun x : Cls => x.id) (setLim cs u v) := fun i j h1 h2 h3 => by
  rw [kF_setLim, kF_setLim]
  exact h i j h1 h2 (by rwa [setLim_len] at h3)
theorem spec_AddClass_any (n : ByteArray) (cv fv : Value) (d : Int) (x : Cls) (cs : List Cls) (fs : List Flt) (w : World) (hk : Keys w) (hc : SrcC w cv cs) (hf : SrcF w fv fs) (hz : n.size + cs.length + fs.length ≤ 1048576) :
    Calls Tryd.prog 6 #[cfgV n cv fv d, clsV x] w (RetC (addR n cs fs d x) w) := by
  have HC := Lib.hid hc
  have HF := Lib.hid hf
  have HK := Lib.hid hk
  obtain ⟨CA, cc, hcv, _, _⟩ := Src.rd hc
  obtain ⟨FA, fc, hfv, _, _⟩ := Src.rd hf
  subst hcv hfv
  clear hc hf hk
  have E0 : Ext w (((w.alloc (.cells #[.string n, .slice CA cs.length cc, .slice FA fs.length fc, .int .i64 d] 32)).alloc (.cells #[.int .i64 x.id, .int .i64 x.parent, .int .i64 x.rate, .int .i64 x.ceil, .int .i64 x.burst, .int .i64 x.cburst, .int .i64 x.prio, .int .i64 x.limit] 36)).alloc (.cells #[.string ⟨#[]⟩, .slice none 0 0, .slice none 0 0, .int .i64 0] 32)) := by (repeat (first | (with_reducible exact Ext.refl _) | (with_reducible assumption) | (with_reducible apply Ext.alloc) | (with_reducible apply Ext.drew) | (with_reducible apply Ext.drewN) | ((with_reducible refine Ext.setCell ?_ ?_ _); rotate_left; (focus (first | (simp; done) | (simp; omega) | omega))) | (with_reducible refine Ext.trans ?_ (by assumption))))
  have BX := Lib.hid ((Box.new w n (.slice CA cs.length cc) (.slice FA fs.length fc) d 32).ext (((Ext.refl _).alloc (.cells #[.int .i64 x.id, .int .i64 x.parent, .int .i64 x.rate, .int .i64 x.ceil, .int .i64 x.burst, .int .i64 x.cburst, .int .i64 x.prio, .int .i64 x.limit] 36)).alloc (.cells #[.string ⟨#[]⟩, .slice none 0 0, .slice none 0 0, .int .i64 0] 32)))
  have BXX := Lib.hid (show Blk (((w.alloc (.cells #[.string n, .slice CA cs.length cc, .slice FA fs.length fc, .int .i64 d] 32)).alloc (.cells #[.int .i64 x.id, .int .i64 x.parent, .int .i64 x.rate, .int .i64 x.ceil, .int .i64 x.burst, .int .i64 x.cburst, .int .i64 x.prio, .int .i64 x.limit] 36)).alloc (.cells #[.string ⟨#[]⟩, .slice none 0 0, .slice none 0 0, .int .i64 0] 32)) (w.heap.size + 1) 36 #[.int .i64 x.id, .int .i64 x.parent, .int .i64 x.rate, .int .i64 x.ceil, .int .i64 x.burst, .int .i64 x.cburst, .int .i64 x.prio, .int .i64 x.limit] by
    have := (Blk.new (w.alloc (.cells #[.string n, .slice CA cs.length cc, .slice FA fs.length fc, .int .i64 d] 32)) 36 #[.int .i64 x.id, .int .i64 x.parent, .int .i64 x.rate, .int .i64 x.ceil, .int .i64 x.burst, .int .i64 x.cburst, .int .i64 x.prio, .int .i64 x.limit]).ext ((Ext.refl _).alloc (.cells #[.string ⟨#[]⟩, .slice none 0 0, .slice none 0 0, .int .i64 0] 32))
    simpa using this)
  have BR := Lib.hid (show Blk (((w.alloc (.cells #[.string n, .slice CA cs.length cc, .slice FA fs.length fc, .int .i64 d] 32)).alloc (.cells #[.int .i64 x.id, .int .i64 x.parent, .int .i64 x.rate, .int .i64 x.ceil, .int .i64 x.burst, .int .i64 x.cburst, .int .i64 x.prio, .int .i64 x.limit] 36)).alloc (.cells #[.string ⟨#[]⟩, .slice none 0 0, .slice none 0 0, .int .i64 0] 32)) (w.heap.size + 2) 32 #[.string ⟨#[]⟩, .slice none 0 0, .slice none 0 0, .int .i64 0] by
    have := Blk.new ((w.alloc (.cells #[.string n, .slice CA cs.length cc, .slice FA fs.length fc, .int .i64 d] 32)).alloc (.cells #[.int .i64 x.id, .int .i64 x.parent, .int .i64 x.rate, .int .i64 x.ceil, .int .i64 x.burst, .int .i64 x.cburst, .int .i64 x.prio, .int .i64 x.limit] 36)) 32 #[.string ⟨#[]⟩, .slice none 0 0, .slice none 0 0, .int .i64 0]
    simpa using this)
  go_enter Tryd.func6, Tryd.ntmps6
  go_wp2_with fail
  refine (spec_cfGood_any n _ _ d cs fs _ (HK.out.ext E0) ((Src.rd HC.out).ext E0) ((Src.rd HF.out).ext E0) hz).mono ?_
  rintro e w1 ⟨rfl, X1⟩
  have E1 := E0.trans X1
  have hs1 := Ext.size X1
  simp at hs1
  cases hr : goodB n cs fs d
  · have HR := Lib.hid (addR_no (x := x) hr)
    obtain ⟨⟨r0, r1, r2, r3⟩, ⟨f0, f1, f2, f3⟩, hfz⟩ := C4.blk (BR.out.ext X1)
    go_wp2
    refine bodyPost_ret (v := .tuple #[cfgV ⟨#[]⟩ (.slice none 0 0) (.slice none 0 0) 0, .bool false]) (by simp [results, Tryd.results6, go_sem, *]) rfl (retC_no HR.out ?_)
    (repeat (first | (with_reducible exact Ext.refl _) | (with_reducible assumption) | (with_reducible apply Ext.alloc) | (with_reducible apply Ext.drew) | (with_reducible apply Ext.drewN) | ((with_reducible refine Ext.setCell ?_ ?_ _); rotate_left; (focus (first | (simp; done) | (simp; omega) | omega))) | (with_reducible refine Ext.trans ?_ (by assumption))))
  have HRW := Lib.hid hr
  have HLEN := Lib.hid (good_len hr)
  have hn8 : n.size ≤ 8 := good_name hr
  obtain ⟨hl1, hl24, hf16⟩ := good_len hr
  obtain ⟨q0, q1, q2, q3, q4⟩ := BX.out.ext X1
  go_wp2_with fail
  clear q0 q1 q2 q3 q4
  refine (spec_cfOwn_any n _ _ d cs fs _ (HC.out.ext E1) (HF.out.ext E1) (by omega) (by omega)).mono ?_
  rintro e w4 ⟨u1, u2, rfl, O1, O2, F4⟩
  have X4 := X1.trans F4
  have E4 := E0.trans X4
  obtain ⟨g, cap, cells, rfl, hb, hglt, _, _, _, _, _⟩ := Own.blk O1 (by omega)
  obtain ⟨A2, n2, k2, rfl⟩ := Own.form O2 Flt.len
  have HO1 := Lib.hid O1
  have HO2 := Lib.hid O2
  clear O1 O2
  have hs4 := Ext.size F4
  have n3 : (Value.slice A2 n2 k2).ownBlock ≠ some g := fun h => Own.apart HO2.out HO1.out (by decide) g h rfl
  have FB := (Ext.refl w4).alloc (.cells #[.string n, (.slice (some ⟨g, 0, none⟩) cs.length cap), (.slice A2 n2 k2), .int .i64 d] 32)
  have OB1 := Lib.hid (HO1.out.ext FB)
  have OB2 := Lib.hid (HO2.out.ext FB)
  have BN := Lib.hid (Blk.new w4 32 #[.string n, (.slice (some ⟨g, 0, none⟩) cs.length cap), (.slice A2 n2 k2), .int .i64 d])
  have XB := X4.trans FB
  have EB := E0.trans XB
  have hsB := Ext.size FB
  simp at hsB
  have hg1 : g ≠ w.heap.size + 2 := by omega
  have hgn : g ≠ w4.heap.size := by omega
  have hgx : g ≠ w.heap.size + 1 := by omega
  have hgw : ¬ g = w.heap.size := by omega
  have hgn' : ¬ g = w4.heap.size := hgn
  have hgx' : ¬ g = w.heap.size + 1 := hgx
  obtain ⟨q0, q1, q2, q3, q4⟩ := BX.out.ext X4
  obtain ⟨x0, x1, x2, x3, x4, x5, x6, x7, xg⟩ := bcC (BXX.out.ext X4)
  clear hr
  go_wp2_with fail
  clear q0 q1 q2 q3 q4 x0 x1 x2 x3 x4 x5 x6 x7 xg
  refine (spec_cfFind_any n _ _ d x.parent cs _ (Own.rd OB1.out Cls.len) (by omega)).mono ?_
  rintro e w5 ⟨rfl, F5⟩
  have E5 := EB.trans F5
  have hs5 := Ext.size F5
  simp at hs5
  rcases findI_bd cs x.parent with hu | ⟨u, hu, hul⟩
  · have HAL := Lib.hid (show addL cs x = cs ++ [x] by simp [addL, hu])
    rw [hu]
    clear hu
    obtain ⟨⟨p0, p1, p2, p3⟩, ⟨g0, g1, g2, g3⟩, hp⟩ := C4.blk (BN.out.ext F5)
    obtain ⟨x0, x1, x2, x3, x4, x5, x6, x7, xg⟩ := bcC (BXX.out.ext (XB.trans F5))
    go_wp2_with fail
    clear p0 p1 p2 p3 g0 g1 g2 g3 hp x0 x1 x2 x3 x4 x5 x6 x7 xg
    refine (putC_any cs _ x _ (Own.src (OB1.out.ext F5) Cls.len) (by have := hl24; omega)).mono ?_
    rintro e w7 ⟨A3, n3', k3, L, rfl, O7, pL, sL, F7⟩
    have HO7 := Lib.hid (Own.mono (base' := w1.heap.size) O7 (by first | omega | (simp; omega)))
    have HF7 := Lib.hid (Own.ext (OB2.out.ext F5) F7)
    have BN7 := Lib.hid (Blk.ext (BN.out.ext F5) F7)
    have BR7 := Lib.hid (Blk.ext (BR.out.ext (XB.trans F5)) F7)
    have E7 := Ext.trans (E5) F7
    have hsE := Ext.size (E5)
    have HR := Lib.hid (addR_is (x := x) (n := n) (d := d) HRW.out (sL (lt_asc (good_cls_lt HRW.out))) (lt_asc (good_flt_lt HRW.out)) (by rw [HAL.out]; exact pL.trans (List.perm_append_singleton x _).symm) (List.Perm.refl fs))
    have hzL : n.size + L.length + fs.length ≤ 1048576 := by
      have h1 := hl24
      have h2 := HLEN.out
      have h3 := pL.length_eq
      simp at h3
      omega
    clear O7 pL sL
    obtain ⟨⟨p0, p1, p2, p3⟩, ⟨g0, g1, g2, g3⟩, hp⟩ := C4.blk BN7.out
    have HO8 := Lib.hid (HO7.out.setOff (Own.ne_blk HO7.out BN7.out (by decide)) 1 (.slice A3 n3' k3))
    have HF8 := Lib.hid (HF7.out.setOff (Own.ne_blk HF7.out BN7.out (by decide)) 1 (.slice A3 n3' k3))
    have hw42 : w4.heap.size ≠ w.heap.size + 2 := by omega
    have BR8 := Lib.hid (BR7.out.kept hw42 1 (.slice A3 n3' k3))
    have E8 : Ext w (w7.setCell ⟨w4.heap.size, 1, none⟩ (.slice A3 n3' k3)) := by (repeat (first | (with_reducible exact Ext.refl _) | (with_reducible assumption) | (with_reducible apply Ext.alloc) | (with_reducible apply Ext.drew) | (with_reducible apply Ext.drewN) | ((with_reducible refine Ext.setCell ?_ ?_ _); rotate_left; (focus (first | (simp; done) | (simp; omega) | omega))) | (with_reducible refine Ext.trans ?_ (by assumption))))
    go_wp2_with fail
    clear p0 p1 p2 p3 g0 g1 g2 g3 hp
    refine (spec_cfIf_any n _ _ _ _ _ _ d L fs _ (HK.out.ext E8) (Own.rd HO8.out Cls.len) (Own.rd HF8.out Flt.len) hzL).mono ?_
    rintro e wf ⟨rfl, FF⟩
    obtain ⟨⟨r0, r1, r2, r3⟩, ⟨f0, f1, f2, f3⟩, hfz⟩ := C4.blk (BR8.out.ext FF)
    go_wp2
    refine bodyPost_ret (v := .tuple #[ifV (goodB n L fs d) n A3 n3' k3 A2 n2 k2 d, .bool (goodB n L fs d)]) (by simp [results, Tryd.results6, go_sem, *]) rfl (retC_eq HR.out (retC_if ?_ ?_ ?_))
    · refine Own.mono (base := w1.heap.size) ?_ (by omega)
      repeat (with_reducible refine Own.setCell ?_ (by omega) _ _)
      exact HO8.out.ext FF
    · refine Own.mono (base := w1.heap.size) ?_ (by omega)
      repeat (with_reducible refine Own.setCell ?_ (by omega) _ _)
      exact HF8.out.ext FF
    · (repeat (first | (with_reducible exact Ext.refl _) | (with_reducible assumption) | (with_reducible apply Ext.alloc) | (with_reducible apply Ext.drew) | (with_reducible apply Ext.drewN) | ((with_reducible refine Ext.setCell ?_ ?_ _); rotate_left; (focus (first | (simp; done) | (simp; omega) | omega))) | (with_reducible refine Ext.trans ?_ (by assumption))))
  have HU := Lib.hid hu
  rw [hu]
  clear hu
  obtain ⟨hcl, hfr⟩ := Own.cell_at (OB1.out.ext F5) u 7 cs[u] (.int .i64 cs[u].limit) (List.getElem?_eq_getElem hul) Cls.len rfl
  obtain ⟨cs', HCS, OC⟩ : ∃ l, Hid (l = setLim cs u 0) ∧ Hid (OwnC (w5.setCell ⟨g, u * 8 + 7, none⟩ (.int .i64 0)) w1.heap.size (.slice (some ⟨g, 0, none⟩) cs.length cap) l) :=
    ⟨_, Lib.hid rfl, Lib.hid (by rw [setLim_at cs u 0 hul]; exact Own.set_at' (OB1.out.ext F5) u 7 cs[u] _ _ (List.getElem?_eq_getElem hul) (by omega) Cls.len rfl)⟩
  have OF := Lib.hid ((OB2.out.ext F5).setOff n3 (u * 8 + 7) (.int .i64 0))
  have BNC := Lib.hid ((BN.out.ext F5).kept hgn (u * 8 + 7) (.int .i64 0))
  have BXC := Lib.hid ((BXX.out.ext (XB.trans F5)).kept hgx (u * 8 + 7) (.int .i64 0))
  have BRC := Lib.hid ((BR.out.ext (XB.trans F5)).kept hg1 (u * 8 + 7) (.int .i64 0))
  have EC : Ext w (w5.setCell ⟨g, u * 8 + 7, none⟩ (.int .i64 0)) := by (repeat (first | (with_reducible exact Ext.refl _) | (with_reducible assumption) | (with_reducible apply Ext.alloc) | (with_reducible apply Ext.drew) | (with_reducible apply Ext.drewN) | ((with_reducible refine Ext.setCell ?_ ?_ _); rotate_left; (focus (first | (simp; done) | (simp; omega) | omega))) | (with_reducible refine Ext.trans ?_ (by assumption))))
  have HAL := Lib.hid (show addL cs x = cs' ++ [x] by rw [HCS.out]; simp [addL, HU.out])
  have hcl24 : cs'.length ≤ 24 := by rw [HCS.out, setLim_len]; exact hl24
  obtain ⟨⟨m0, m1, m2, m3⟩, _, hm⟩ := C4.blk (BN.out.ext F5)
  obtain ⟨y0, y1, y2, y3, y4, y5, y6, y7, yg⟩ := bcC (BXX.out.ext (XB.trans F5))
  obtain ⟨⟨p0, p1, p2, p3⟩, ⟨g0, g1, g2, g3⟩, hp⟩ := C4.blk (BNC.out)
  obtain ⟨x0, x1, x2, x3, x4, x5, x6, x7, xg⟩ := bcC (BXC.out)
  go_wp2_with fail
  clear p0 p1 p2 p3 g0 g1 g2 g3 hp x0 x1 x2 x3 x4 x5 x6 x7 xg
  refine (putC_any cs' _ x _ (Own.src (OC.out) Cls.len) (by have := hcl24; omega)).mono ?_
  rintro e w7 ⟨A3, n3', k3, L, rfl, O7, pL, sL, F7⟩
  have HO7 := Lib.hid (Own.mono (base' := w1.heap.size) O7 (by first | omega | (simp; omega)))
  have HF7 := Lib.hid (Own.ext (OF.out) F7)
  have BN7 := Lib.hid (Blk.ext (BNC.out) F7)
  have BR7 := Lib.hid (Blk.ext (BRC.out) F7)
  have E7 := Ext.trans (EC) F7
  have hsE := Ext.size (EC)
  have HR := Lib.hid (addR_is (x := x) (n := n) (d := d) HRW.out (sL (by rw [HCS.out]; exact asc_setLim u 0 (lt_asc (good_cls_lt HRW.out)))) (lt_asc (good_flt_lt HRW.out)) (by rw [HAL.out]; exact pL.trans (List.perm_append_singleton x _).symm) (List.Perm.refl fs))
  have hzL : n.size + L.length + fs.length ≤ 1048576 := by
    have h1 := hcl24
    have h2 := HLEN.out
    have h3 := pL.length_eq
    simp at h3
    omega
  clear O7 pL sL
  obtain ⟨⟨p0, p1, p2, p3⟩, ⟨g0, g1, g2, g3⟩, hp⟩ := C4.blk BN7.out
  have HO8 := Lib.hid (HO7.out.setOff (Own.ne_blk HO7.out BN7.out (by decide)) 1 (.slice A3 n3' k3))
  have HF8 := Lib.hid (HF7.out.setOff (Own.ne_blk HF7.out BN7.out (by decide)) 1 (.slice A3 n3' k3))
  have hw42 : w4.heap.size ≠ w.heap.size + 2 := by omega
  have BR8 := Lib.hid (BR7.out.kept hw42 1 (.slice A3 n3' k3))
  have E8 : Ext w (w7.setCell ⟨w4.heap.size, 1, none⟩ (.slice A3 n3' k3)) := by (repeat (first | (with_reducible exact Ext.refl _) | (with_reducible assumption) | (with_reducible apply Ext.alloc) | (with_reducible apply Ext.drew) | (with_reducible apply Ext.drewN) | ((with_reducible refine Ext.setCell ?_ ?_ _); rotate_left; (focus (first | (simp; done) | (simp; omega) | omega))) | (with_reducible refine Ext.trans ?_ (by assumption))))
  go_wp2_with fail
  clear p0 p1 p2 p3 g0 g1 g2 g3 hp
  refine (spec_cfIf_any n _ _ _ _ _ _ d L fs _ (HK.out.ext E8) (Own.rd HO8.out Cls.len) (Own.rd HF8.out Flt.len) hzL).mono ?_
  rintro e wf ⟨rfl, FF⟩
  obtain ⟨⟨r0, r1, r2, r3⟩, ⟨f0, f1, f2, f3⟩, hfz⟩ := C4.blk (BR8.out.ext FF)
  go_wp2
  refine bodyPost_ret (v := .tuple #[ifV (goodB n L fs d) n A3 n3' k3 A2 n2 k2 d, .bool (goodB n L fs d)]) (by simp [results, Tryd.results6, go_sem, *]) rfl (retC_eq HR.out (retC_if ?_ ?_ ?_))
  · refine Own.mono (base := w1.heap.size) ?_ (by omega)
    repeat (with_reducible refine Own.setCell ?_ (by omega) _ _)
    exact HO8.out.ext FF
  · refine Own.mono (base := w1.heap.size) ?_ (by omega)
    repeat (with_reducible refine Own.setCell ?_ (by omega) _ _)
    exact HF8.out.ext FF
  · (repeat (first | (with_reducible exact Ext.refl _) | (with_reducible assumption) | (with_reducible apply Ext.alloc) | (with_reducible apply Ext.drew) | (with_reducible apply Ext.drewN) | ((with_reducible refine Ext.setCell ?_ ?_ _); rotate_left; (focus (first | (simp; done) | (simp; omega) | omega))) | (with_reducible refine Ext.trans ?_ (by assumption))))
end Go.Proofs.YtbbenppmfmphfaaDoor
