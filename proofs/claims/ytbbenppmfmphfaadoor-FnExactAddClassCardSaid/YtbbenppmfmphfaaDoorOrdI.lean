/- OrderConfig: contracts of both sides. Printed by wip/tools/gen_ord.py. -/
import Derived.Test.YtbbenppmfmphfaaDoorOrdR
namespace Go.Proofs.YtbbenppmfmphfaaDoor
open Go.RowKit
set_option maxRecDepth 20000
set_option maxHeartbeats 1000000
set_option linter.unusedSimpArgs false
set_option linter.unusedVariables false

theorem impl_sortConfig_any (g bs : Nat) (n : ByteArray) (v1 v2 : Value) (d : Int) (cs : List Cls) (fs : List Flt) (w : World) (hB : Blk w g 32 #[.string n, v1, v2, .int .i64 d]) (h1 : OwnC w bs v1 cs) (h2 : OwnF w bs v2 fs) (hcl : cs.length ≤ 39) (hfl : fs.length ≤ 39) :
    Calls Tryd.prog 28 #[.pointer (some ⟨g, 0, none⟩)] w fun e w' => e = .returned (.tuple #[]) ∧ ∃ L F, OwnC w' bs v1 L ∧ OwnF w' bs v2 F ∧ L.Perm cs ∧ Asc (fun x : Cls => x.id) L ∧ F.Perm fs ∧ Asc (fun x : Flt => x.prio) F ∧ Blk w' g 32 #[.string n, v1, v2, .int .i64 d] ∧ KB (fun k => v1.ownBlock = some k ∨ v2.ownBlock = some k) w w' := by
  have HB := Lib.hid hB
  have HO := Lib.hid h1
  have HF := Lib.hid h2
  obtain ⟨⟨p0, p1, p2, p3⟩, _, hp⟩ := C4.blk hB
  clear hB h1 h2
  go_enter Tryd.func28, Tryd.ntmps28
  go_wp2_with fail
  clear p0 p1 p2 p3 hp
  refine (sortC_any cs v1 bs _ HO.out hcl).mono ?_
  rintro e w1 ⟨rfl, L, O1, p1, s1, k1⟩
  have HO1 := Lib.hid O1
  have HP1 := Lib.hid p1
  have HS1 := Lib.hid (show Asc (fun x : Cls => x.id) L by unfold Asc; rw [p1.length_eq]; exact s1)
  have HK1 := Lib.hid k1
  have HF1 := Lib.hid (Own.kb HF.out k1 (fun g' hg' h => Own.apart HF.out HO.out (by decide) g' hg' h))
  have HB1 := Lib.hid (Blk.kb k1 HB.out (Own.ne_blk HO.out HB.out (by decide)))
  clear O1 p1 s1 k1
  obtain ⟨⟨p0, p1, p2, p3⟩, _, hp⟩ := C4.blk HB1.out
  go_wp2_with fail
  clear p0 p1 p2 p3 hp
  refine (sortF_any fs v2 bs _ HF1.out hfl).mono ?_
  rintro e w2 ⟨rfl, F, O2, p2, s2, k2⟩
  go_wp2_with fail
  go_end0
  exact ⟨rfl, L, F, Own.kb HO1.out k2 (fun g' hg' h => Own.apart HO1.out HF1.out (by decide) g' hg' h), O2, HP1.out, HS1.out, p2, by unfold Asc; rw [p2.length_eq]; exact s2, Blk.kb k2 HB1.out (Own.ne_blk HF1.out HB1.out (by decide)), HK1.out.trans k2⟩
theorem impl_OrderConfig_any (n : ByteArray) (cv fv : Value) (d : Int) (cs : List Cls) (fs : List Flt) (w : World) (hk : Keys w) (hc : SrcC w cv cs) (hf : SrcF w fv fs) (hz : n.size + cs.length + fs.length ≤ 1048576) :
    Calls Tryd.prog 14 #[cfgV n cv fv d] w (RetC (ordR n cs fs d) w) := by
  have HC := Lib.hid hc
  have HF := Lib.hid hf
  have HK := Lib.hid hk
  obtain ⟨CA, cc, hcv, _, _⟩ := Src.rd hc
  obtain ⟨FA, fc, hfv, _, _⟩ := Src.rd hf
  subst hcv hfv
  clear hc hf hk
  have E0 : Ext w ((w.alloc (.cells #[.string n, .slice CA cs.length cc, .slice FA fs.length fc, .int .i64 d] 32)).alloc (.cells #[.string ⟨#[]⟩, .slice none 0 0, .slice none 0 0, .int .i64 0] 32)) := by (repeat (first | (with_reducible exact Ext.refl _) | (with_reducible assumption) | (with_reducible apply Ext.alloc) | (with_reducible apply Ext.drew) | (with_reducible apply Ext.drewN) | ((with_reducible refine Ext.setCell ?_ ?_ _); rotate_left; (focus (first | (simp; done) | (simp; omega) | omega))) | (with_reducible refine Ext.trans ?_ (by assumption))))
  have BX := Lib.hid ((Box.new w n (.slice CA cs.length cc) (.slice FA fs.length fc) d 32).ext ((Ext.refl _).alloc (.cells #[.string ⟨#[]⟩, .slice none 0 0, .slice none 0 0, .int .i64 0] 32)))
  have BR := Lib.hid (show Blk ((w.alloc (.cells #[.string n, .slice CA cs.length cc, .slice FA fs.length fc, .int .i64 d] 32)).alloc (.cells #[.string ⟨#[]⟩, .slice none 0 0, .slice none 0 0, .int .i64 0] 32)) (w.heap.size + 1) 32 #[.string ⟨#[]⟩, .slice none 0 0, .slice none 0 0, .int .i64 0] by
    have := Blk.new (w.alloc (.cells #[.string n, .slice CA cs.length cc, .slice FA fs.length fc, .int .i64 d] 32)) 32 #[.string ⟨#[]⟩, .slice none 0 0, .slice none 0 0, .int .i64 0]
    simpa using this)
  obtain ⟨q0, q1, q2, q3, q4⟩ := BX.out
  obtain ⟨⟨r0, r1, r2, r3⟩, ⟨f0, f1, f2, f3⟩, hfz⟩ := C4.blk BR.out
  by_cases h1 : cs.length ≤ 24
  rotate_left
  · have HR := Lib.hid (ordR_no (n := n) (fs := fs) (d := d) (.inl h1))
    have hz1 : (24 : Int) < (cs.length : Int) := by omega
    go_enter Tryd.func14, Tryd.ntmps14
    go_wp2
    refine bodyPost_ret (v := .tuple #[cfgV ⟨#[]⟩ (.slice none 0 0) (.slice none 0 0) 0, .bool false]) (by simp [results, Tryd.results14, go_sem, *]) rfl (retC_no HR.out ?_)
    (repeat (first | (with_reducible exact Ext.refl _) | (with_reducible assumption) | (with_reducible apply Ext.alloc) | (with_reducible apply Ext.drew) | (with_reducible apply Ext.drewN) | ((with_reducible refine Ext.setCell ?_ ?_ _); rotate_left; (focus (first | (simp; done) | (simp; omega) | omega))) | (with_reducible refine Ext.trans ?_ (by assumption))))
  have hz1 : ¬ (24 : Int) < (cs.length : Int) := by omega
  by_cases h2 : fs.length ≤ 16
  rotate_left
  · have HR := Lib.hid (ordR_no (n := n) (cs := cs) (d := d) (.inr h2))
    have hz2 : (16 : Int) < (fs.length : Int) := by omega
    go_enter Tryd.func14, Tryd.ntmps14
    go_wp2
    refine bodyPost_ret (v := .tuple #[cfgV ⟨#[]⟩ (.slice none 0 0) (.slice none 0 0) 0, .bool false]) (by simp [results, Tryd.results14, go_sem, *]) rfl (retC_no HR.out ?_)
    (repeat (first | (with_reducible exact Ext.refl _) | (with_reducible assumption) | (with_reducible apply Ext.alloc) | (with_reducible apply Ext.drew) | (with_reducible apply Ext.drewN) | ((with_reducible refine Ext.setCell ?_ ?_ _); rotate_left; (focus (first | (simp; done) | (simp; omega) | omega))) | (with_reducible refine Ext.trans ?_ (by assumption))))
  have hz2 : ¬ (16 : Int) < (fs.length : Int) := by omega
  go_enter Tryd.func14, Tryd.ntmps14
  go_wp2_with fail
  clear q0 q1 q2 q3 q4 r0 r1 r2 r3 f0 f1 f2 f3 hfz
  refine (impl_cloneConfig_any n _ _ d cs fs _ (HC.out.ext E0) (HF.out.ext E0) (by omega) (by omega)).mono ?_
  rintro e w4 ⟨u1, u2, rfl, O1, O2, F4⟩
  have E4 := E0.trans F4
  obtain ⟨A1, n1, c1, rfl⟩ := Own.form O1 Cls.len
  obtain ⟨A2, n2, c2, rfl⟩ := Own.form O2 Flt.len
  have HO1 := Lib.hid O1
  have HO2 := Lib.hid O2
  clear O1 O2
  have hs4 := Ext.size F4
  simp at hs4
  have FB := (Ext.refl w4).alloc (.cells #[.string n, .slice A1 n1 c1, .slice A2 n2 c2, .int .i64 d] 32)
  have BN := Lib.hid (Blk.new w4 32 #[.string n, .slice A1 n1 c1, .slice A2 n2 c2, .int .i64 d])
  have BR4 := Lib.hid ((BR.out.ext F4).ext FB)
  have E4a := E4.trans FB
  go_wp2_with fail
  refine (impl_sortConfig_any w4.heap.size _ n _ _ d cs fs _ BN.out (HO1.out.ext FB) (HO2.out.ext FB) (by omega) (by omega)).mono ?_
  rintro e w5 ⟨rfl, L, F, O5, G5, pL, sL, pF, sF, B5, K5⟩
  have HR := Lib.hid (ordR_is (n := n) (d := d) h1 h2 sL sF pL pF)
  have hzL : n.size + L.length + F.length ≤ 1048576 := by rw [pL.length_eq, pF.length_eq]; exact hz
  have HO5 := Lib.hid O5
  have HG5 := Lib.hid G5
  have hlo : ∀ i, ((Value.slice A1 n1 c1).ownBlock = some i ∨ (Value.slice A2 n2 c2).ownBlock = some i) → w.heap.size + 2 ≤ i := fun i hi => hi.elim (fun h => by have := (Own.lt HO1.out i h).1; simpa using this) (fun h => by have := (Own.lt HO2.out i h).1; simpa using this)
  have BR5 := Lib.hid (Blk.kb K5 BR4.out (fun h => by have := hlo _ h; omega))
  have E5 := Ext.kb E4a K5 (fun i hi => by have := hlo i hi; omega)
  have hs5 := K5.size
  simp at hs5
  obtain ⟨⟨p0, p1, p2, p3⟩, _, hp⟩ := C4.blk B5
  clear O5 G5 pL sL pF sF B5 K5
  go_wp2_with fail
  clear p0 p1 p2 p3 hp
  refine (impl_ifConfig_any n _ _ _ _ _ _ d L F _ (HK.out.ext E5) (Own.rd HO5.out Cls.len) (Own.rd HG5.out Flt.len) hzL).mono ?_
  rintro e w6 ⟨rfl, F6⟩
  obtain ⟨⟨r0, r1, r2, r3⟩, ⟨f0, f1, f2, f3⟩, hfz⟩ := C4.blk (BR5.out.ext F6)
  go_wp2
  refine bodyPost_ret (v := .tuple #[ifV (goodB n L F d) n A1 n1 c1 A2 n2 c2 d, .bool (goodB n L F d)]) (by simp [results, Tryd.results14, go_sem, *]) rfl (retC_eq HR.out (retC_if ?_ ?_ ?_))
  · refine Own.mono (base := w.heap.size + 2) ?_ (by omega)
    repeat (with_reducible refine Own.setCell ?_ (by omega) _ _)
    exact Own.mono (HO5.out.ext F6) (by simp)
  · refine Own.mono (base := w.heap.size + 2) ?_ (by omega)
    repeat (with_reducible refine Own.setCell ?_ (by omega) _ _)
    exact Own.mono (HG5.out.ext F6) (by simp)
  · (repeat (first | (with_reducible exact Ext.refl _) | (with_reducible assumption) | (with_reducible apply Ext.alloc) | (with_reducible apply Ext.drew) | (with_reducible apply Ext.drewN) | ((with_reducible refine Ext.setCell ?_ ?_ _); rotate_left; (focus (first | (simp; done) | (simp; omega) | omega))) | (with_reducible refine Ext.trans ?_ (by assumption))))
theorem spec_OrderConfig_any (n : ByteArray) (cv fv : Value) (d : Int) (cs : List Cls) (fs : List Flt) (w : World) (hk : Keys w) (hc : SrcC w cv cs) (hf : SrcF w fv fs) (hz : n.size + cs.length + fs.length ≤ 1048576) :
    Calls Tryd.prog 13 #[cfgV n cv fv d] w (RetC (ordR n cs fs d) w) := by
  have HC := Lib.hid hc
  have HF := Lib.hid hf
  have HK := Lib.hid hk
  obtain ⟨CA, cc, hcv, _, _⟩ := Src.rd hc
  obtain ⟨FA, fc, hfv, _, _⟩ := Src.rd hf
  subst hcv hfv
  clear hc hf hk
  have E0 : Ext w ((w.alloc (.cells #[.string n, .slice CA cs.length cc, .slice FA fs.length fc, .int .i64 d] 32)).alloc (.cells #[.string ⟨#[]⟩, .slice none 0 0, .slice none 0 0, .int .i64 0] 32)) := by (repeat (first | (with_reducible exact Ext.refl _) | (with_reducible assumption) | (with_reducible apply Ext.alloc) | (with_reducible apply Ext.drew) | (with_reducible apply Ext.drewN) | ((with_reducible refine Ext.setCell ?_ ?_ _); rotate_left; (focus (first | (simp; done) | (simp; omega) | omega))) | (with_reducible refine Ext.trans ?_ (by assumption))))
  have BX := Lib.hid ((Box.new w n (.slice CA cs.length cc) (.slice FA fs.length fc) d 32).ext ((Ext.refl _).alloc (.cells #[.string ⟨#[]⟩, .slice none 0 0, .slice none 0 0, .int .i64 0] 32)))
  have BR := Lib.hid (show Blk ((w.alloc (.cells #[.string n, .slice CA cs.length cc, .slice FA fs.length fc, .int .i64 d] 32)).alloc (.cells #[.string ⟨#[]⟩, .slice none 0 0, .slice none 0 0, .int .i64 0] 32)) (w.heap.size + 1) 32 #[.string ⟨#[]⟩, .slice none 0 0, .slice none 0 0, .int .i64 0] by
    have := Blk.new (w.alloc (.cells #[.string n, .slice CA cs.length cc, .slice FA fs.length fc, .int .i64 d] 32)) 32 #[.string ⟨#[]⟩, .slice none 0 0, .slice none 0 0, .int .i64 0]
    simpa using this)
  obtain ⟨q0, q1, q2, q3, q4⟩ := BX.out
  obtain ⟨⟨r0, r1, r2, r3⟩, ⟨f0, f1, f2, f3⟩, hfz⟩ := C4.blk BR.out
  by_cases h1 : cs.length ≤ 24
  rotate_left
  · have HR := Lib.hid (ordR_no (n := n) (fs := fs) (d := d) (.inl h1))
    have hz1 : (24 : Int) < (cs.length : Int) := by omega
    go_enter Tryd.func13, Tryd.ntmps13
    go_wp2
    refine bodyPost_ret (v := .tuple #[cfgV ⟨#[]⟩ (.slice none 0 0) (.slice none 0 0) 0, .bool false]) (by simp [results, Tryd.results13, go_sem, *]) rfl (retC_no HR.out ?_)
    (repeat (first | (with_reducible exact Ext.refl _) | (with_reducible assumption) | (with_reducible apply Ext.alloc) | (with_reducible apply Ext.drew) | (with_reducible apply Ext.drewN) | ((with_reducible refine Ext.setCell ?_ ?_ _); rotate_left; (focus (first | (simp; done) | (simp; omega) | omega))) | (with_reducible refine Ext.trans ?_ (by assumption))))
  have hz1 : ¬ (24 : Int) < (cs.length : Int) := by omega
  by_cases h2 : fs.length ≤ 16
  rotate_left
  · have HR := Lib.hid (ordR_no (n := n) (cs := cs) (d := d) (.inr h2))
    have hz2 : (16 : Int) < (fs.length : Int) := by omega
    go_enter Tryd.func13, Tryd.ntmps13
    go_wp2
    refine bodyPost_ret (v := .tuple #[cfgV ⟨#[]⟩ (.slice none 0 0) (.slice none 0 0) 0, .bool false]) (by simp [results, Tryd.results13, go_sem, *]) rfl (retC_no HR.out ?_)
    (repeat (first | (with_reducible exact Ext.refl _) | (with_reducible assumption) | (with_reducible apply Ext.alloc) | (with_reducible apply Ext.drew) | (with_reducible apply Ext.drewN) | ((with_reducible refine Ext.setCell ?_ ?_ _); rotate_left; (focus (first | (simp; done) | (simp; omega) | omega))) | (with_reducible refine Ext.trans ?_ (by assumption))))
  have hz2 : ¬ (16 : Int) < (fs.length : Int) := by omega
  go_enter Tryd.func13, Tryd.ntmps13
  go_wp2_with fail
  clear q0 q1 q2 q3 q4 r0 r1 r2 r3 f0 f1 f2 f3 hfz
  refine (spec_cfOrder_any n _ _ d cs fs _ ((Src.rd HC.out).ext E0) ((Src.rd HF.out).ext E0) (by omega) (by omega)).mono ?_
  rintro e w5 ⟨A1, n1, c1, A2, n2, c2, L, F, rfl, O5, G5, pL, sL, pF, sF, F5⟩
  have HR := Lib.hid (ordR_is (n := n) (d := d) h1 h2 sL sF pL pF)
  have hzL : n.size + L.length + F.length ≤ 1048576 := by rw [pL.length_eq, pF.length_eq]; exact hz
  have HO5 := Lib.hid O5
  have HG5 := Lib.hid G5
  have BR5 := Lib.hid (BR.out.ext F5)
  have E5 := E0.trans F5
  have hs5 := Ext.size F5
  simp at hs5
  clear O5 G5 pL sL pF sF
  go_wp2_with fail
  refine (spec_cfIf_any n _ _ _ _ _ _ d L F _ (HK.out.ext E5) (Own.rd HO5.out Cls.len) (Own.rd HG5.out Flt.len) hzL).mono ?_
  rintro e w6 ⟨rfl, F6⟩
  obtain ⟨⟨r0, r1, r2, r3⟩, ⟨f0, f1, f2, f3⟩, hfz⟩ := C4.blk (BR5.out.ext F6)
  go_wp2
  refine bodyPost_ret (v := .tuple #[ifV (goodB n L F d) n A1 n1 c1 A2 n2 c2 d, .bool (goodB n L F d)]) (by simp [results, Tryd.results13, go_sem, *]) rfl (retC_eq HR.out (retC_if ?_ ?_ ?_))
  · refine Own.mono (base := w.heap.size + 2) ?_ (by omega)
    repeat (with_reducible refine Own.setCell ?_ (by omega) _ _)
    exact Own.mono (HO5.out.ext F6) (by simp)
  · refine Own.mono (base := w.heap.size + 2) ?_ (by omega)
    repeat (with_reducible refine Own.setCell ?_ (by omega) _ _)
    exact Own.mono (HG5.out.ext F6) (by simp)
  · (repeat (first | (with_reducible exact Ext.refl _) | (with_reducible assumption) | (with_reducible apply Ext.alloc) | (with_reducible apply Ext.drew) | (with_reducible apply Ext.drewN) | ((with_reducible refine Ext.setCell ?_ ?_ _); rotate_left; (focus (first | (simp; done) | (simp; omega) | omega))) | (with_reducible refine Ext.trans ?_ (by assumption))))
end Go.Proofs.YtbbenppmfmphfaaDoor
