/- DropClass: contract of the reference's side. Printed by wip/tools/gen_drop.py. -/
import Derived.Test.YtidahgoihgodnaaDoorDropP
import Derived.Deep.DeepCutAuto
namespace Go.Proofs.YtidahgoihgodnaaDoor
open Go.RowKit
set_option maxRecDepth 20000
set_option maxHeartbeats 1000000
set_option linter.unusedSimpArgs false
set_option linter.unusedVariables false

theorem spec_DropClass_any (n : ByteArray) (cv fv : Value) (d id : Int) (cs : List Cls) (fs : List Flt) (w : World) (hk : Keys w) (hc : SrcC w cv cs) (hf : SrcF w fv fs) (hz : n.size + cs.length + fs.length ≤ 1048576) :
    Calls Tryd.prog 13 #[cfgV n cv fv d, .int .i64 id] w (RetC (drR n cs fs d id) w) := by
  cases hr : goodB n cs fs d
  · have HC := Lib.hid hc
    have HF := Lib.hid hf
    have HK := Lib.hid hk
    have HRW := Lib.hid hr
    clear hc hf hk
    have E0 : Ext w ((w.alloc (.cells #[.string n, cv, fv, .int .i64 d] 30)).alloc (.cells #[.string ⟨#[]⟩, .slice none 0 0, .slice none 0 0, .int .i64 0] 30)) := by (repeat (first | (with_reducible exact Ext.refl _) | (with_reducible assumption) | (with_reducible apply Ext.alloc) | (with_reducible apply Ext.drew) | (with_reducible apply Ext.drewN) | ((with_reducible refine Ext.setCell ?_ ?_ _); rotate_left; (focus (first | (simp; done) | (simp; omega) | omega))) | (with_reducible refine Ext.trans ?_ (by assumption))))
    have BX := Lib.hid ((Box.new w n cv fv d 30).ext ((Ext.refl _).alloc (.cells #[.string ⟨#[]⟩, .slice none 0 0, .slice none 0 0, .int .i64 0] 30)))
    have BR := Lib.hid (show Blk ((w.alloc (.cells #[.string n, cv, fv, .int .i64 d] 30)).alloc (.cells #[.string ⟨#[]⟩, .slice none 0 0, .slice none 0 0, .int .i64 0] 30)) (w.heap.size + 1) 30 #[.string ⟨#[]⟩, .slice none 0 0, .slice none 0 0, .int .i64 0] by
      have := Blk.new (w.alloc (.cells #[.string n, cv, fv, .int .i64 d] 30)) 30 #[.string ⟨#[]⟩, .slice none 0 0, .slice none 0 0, .int .i64 0]
      simpa using this)
    go_enter Tryd.func13, Tryd.ntmps13
    go_wp2_with fail
    refine (spec_cfGood_any n _ _ d cs fs _ (HK.out.ext E0) ((Src.rd HC.out).ext E0) ((Src.rd HF.out).ext E0) hz).mono ?_
    rintro e w1 ⟨rfl, X1⟩
    have E1 := E0.trans X1
    have HR := Lib.hid (show drR n cs fs d id = noCfg by rw [drR, HRW.out]; rfl)
    obtain ⟨⟨r0, r1, r2, r3⟩, ⟨f0, f1, f2, f3⟩, hfz⟩ := C4.blk (BR.out.ext X1)
    go_wp2
    refine bodyPost_ret (v := .tuple #[cfgV ⟨#[]⟩ (.slice none 0 0) (.slice none 0 0) 0, .bool false]) (by simp [results, Tryd.results13, go_sem, *]) rfl (retC_no HR.out ?_)
    (repeat (first | (with_reducible exact Ext.refl _) | (with_reducible assumption) | (with_reducible apply Ext.alloc) | (with_reducible apply Ext.drew) | (with_reducible apply Ext.drewN) | ((with_reducible refine Ext.setCell ?_ ?_ _); rotate_left; (focus (first | (simp; done) | (simp; omega) | omega))) | (with_reducible refine Ext.trans ?_ (by assumption))))
  obtain ⟨hl1, hl24, hf16⟩ := good_len hr
  have HRW := Lib.hid hr
  have HID := Lib.hid (good_ids hr)
  rcases hc with ⟨h1, h2⟩ | ⟨b, o, kc, h1, hkc, hkm, hrd⟩
  · subst h2; simp at hl1
  subst h1
  have HC := Lib.hid (show SrcC w (.slice (some ⟨b, o, none⟩) cs.length kc) cs from .inr ⟨b, o, kc, rfl, hkc, hkm, hrd⟩)
  have HRD := Lib.hid hrd
  have HF := Lib.hid hf
  have HK := Lib.hid hk
  clear hrd hf hk
  have E0 : Ext w ((w.alloc (.cells #[.string n, .slice (some ⟨b, o, none⟩) cs.length kc, fv, .int .i64 d] 30)).alloc (.cells #[.string ⟨#[]⟩, .slice none 0 0, .slice none 0 0, .int .i64 0] 30)) := by (repeat (first | (with_reducible exact Ext.refl _) | (with_reducible assumption) | (with_reducible apply Ext.alloc) | (with_reducible apply Ext.drew) | (with_reducible apply Ext.drewN) | ((with_reducible refine Ext.setCell ?_ ?_ _); rotate_left; (focus (first | (simp; done) | (simp; omega) | omega))) | (with_reducible refine Ext.trans ?_ (by assumption))))
  have BX := Lib.hid ((Box.new w n (.slice (some ⟨b, o, none⟩) cs.length kc) fv d 30).ext ((Ext.refl _).alloc (.cells #[.string ⟨#[]⟩, .slice none 0 0, .slice none 0 0, .int .i64 0] 30)))
  have BR := Lib.hid (show Blk ((w.alloc (.cells #[.string n, .slice (some ⟨b, o, none⟩) cs.length kc, fv, .int .i64 d] 30)).alloc (.cells #[.string ⟨#[]⟩, .slice none 0 0, .slice none 0 0, .int .i64 0] 30)) (w.heap.size + 1) 30 #[.string ⟨#[]⟩, .slice none 0 0, .slice none 0 0, .int .i64 0] by
    have := Blk.new (w.alloc (.cells #[.string n, .slice (some ⟨b, o, none⟩) cs.length kc, fv, .int .i64 d] 30)) 30 #[.string ⟨#[]⟩, .slice none 0 0, .slice none 0 0, .int .i64 0]
    simpa using this)
  go_enter Tryd.func13, Tryd.ntmps13
  go_wp2_with fail
  refine (spec_cfGood_any n _ _ d cs fs _ (HK.out.ext E0) ((Src.rd HC.out).ext E0) ((Src.rd HF.out).ext E0) hz).mono ?_
  rintro e w1 ⟨rfl, X1⟩
  have E1 := E0.trans X1
  obtain ⟨q0, q1, q2, q3, q4⟩ := BX.out.ext X1
  go_wp2_with fail
  clear q0 q1 q2 q3 q4
  refine (spec_cfTarget_any n _ fv d id cs _ ((Src.rd HC.out).ext E1) (by omega)).mono ?_
  rintro e w2 ⟨rfl, F2⟩
  have X2 := X1.trans F2
  have E2 := E0.trans X2
  cases ht : leafIdB cs id
  · have HV := Lib.hid ht
    have HR := Lib.hid (show drR n cs fs d id = noCfg by rw [drR, HRW.out, HV.out]; rfl)
    obtain ⟨⟨r0, r1, r2, r3⟩, ⟨f0, f1, f2, f3⟩, hfz⟩ := C4.blk (BR.out.ext X2)
    go_wp2
    refine bodyPost_ret (v := .tuple #[cfgV ⟨#[]⟩ (.slice none 0 0) (.slice none 0 0) 0, .bool false]) (by simp [results, Tryd.results13, go_sem, *]) rfl (retC_no HR.out ?_)
    (repeat (first | (with_reducible exact Ext.refl _) | (with_reducible assumption) | (with_reducible apply Ext.alloc) | (with_reducible apply Ext.drew) | (with_reducible apply Ext.drewN) | ((with_reducible refine Ext.setCell ?_ ?_ _); rotate_left; (focus (first | (simp; done) | (simp; omega) | omega))) | (with_reducible refine Ext.trans ?_ (by assumption))))
  have HV := Lib.hid ht
  obtain ⟨u, hu, hul⟩ : ∃ u : Nat, findI cs id = u ∧ u < cs.length := by
    rcases findI_bd cs id with hu | hu
    · simp [leafIdB, hu] at ht
    · exact hu
  have HU := Lib.hid hu
  obtain ⟨D, HD⟩ : ∃ D, Hid (dropL cs id = D) := ⟨_, Lib.hid rfl⟩
  have hDl : D.length ≤ cs.length := by rw [← HD.out]; exact dropL_len cs id
  have hzd : n.size + D.length + fs.length ≤ 1048576 := by omega
  have hdl : D.length ≤ 1048576 := by omega
  have hDR : ∀ cs', upLim D cs[u].parent cs[u].limit = cs' → drR n cs fs d id = ifR n cs' fs d := fun cs' h => by
    rw [drR, HRW.out, HV.out, HU.out, HD.out, Int.toNat_natCast, parAt_is cs u hul, show limAt cs u = cs[u].limit by simp [limAt, hul], h]
    rfl
  have HDR := Lib.hid hDR
  clear hDR
  obtain ⟨hbw, hcell⟩ := HRD.out u cs[u] (List.getElem?_eq_getElem hul)
  generalize cs[u] = x at hcell HDR
  have HCELL := Lib.hid hcell
  have c0 : w2.cell? ⟨b, o + u * 8, none⟩ = some (.int .i64 x.id) := by rw [Ext.cell E2 hbw]; exact hcell 0 _ rfl
  have c1 : w2.cell? ⟨b, o + u * 8 + 1, none⟩ = some (.int .i64 x.parent) := by rw [Ext.cell E2 hbw]; exact hcell 1 _ rfl
  have c2 : w2.cell? ⟨b, o + u * 8 + 2, none⟩ = some (.int .i64 x.rate) := by rw [Ext.cell E2 hbw]; exact hcell 2 _ rfl
  have c3 : w2.cell? ⟨b, o + u * 8 + 3, none⟩ = some (.int .i64 x.ceil) := by rw [Ext.cell E2 hbw]; exact hcell 3 _ rfl
  have c4 : w2.cell? ⟨b, o + u * 8 + 4, none⟩ = some (.int .i64 x.burst) := by rw [Ext.cell E2 hbw]; exact hcell 4 _ rfl
  have c5 : w2.cell? ⟨b, o + u * 8 + 5, none⟩ = some (.int .i64 x.cburst) := by rw [Ext.cell E2 hbw]; exact hcell 5 _ rfl
  have c6 : w2.cell? ⟨b, o + u * 8 + 6, none⟩ = some (.int .i64 x.prio) := by rw [Ext.cell E2 hbw]; exact hcell 6 _ rfl
  have c7 : w2.cell? ⟨b, o + u * 8 + 7, none⟩ = some (.int .i64 x.limit) := by rw [Ext.cell E2 hbw]; exact hcell 7 _ rfl
  clear hcell
  have hu0 : (0 : Int) ≤ (u : Int) := by omega
  have hu1 : (u : Int) < (cs.length : Int) := by omega
  obtain ⟨q0, q1, q2, q3, q4⟩ := BX.out.ext X2
  clear hr ht
  have hs2 := Ext.size X2
  simp at hs2
  have hn1 : ¬ w2.heap.size = w.heap.size := by omega
  have hn2 : ¬ w2.heap.size = b := by omega
  go_upto_region 3 with fail
  go_cut [6] (fun s6 wx => ∃ gx : Nat, s6 = .pointer (some ⟨gx, 0, none⟩) ∧ Hid (Blk wx gx 47 #[.int .i64 x.id, .int .i64 x.parent, .int .i64 x.rate, .int .i64 x.ceil, .int .i64 x.burst, .int .i64 x.cburst, .int .i64 x.prio, .int .i64 x.limit]) ∧ w.heap.size + 2 ≤ gx ∧ Ext ((w.alloc (.cells #[.string n, .slice (some ⟨b, o, none⟩) cs.length kc, fv, .int .i64 d] 30)).alloc (.cells #[.string ⟨#[]⟩, .slice none 0 0, .slice none 0 0, .int .i64 0] 30)) wx)
  case first =>
    go_region_held3 (fun w' => w'.cell? ⟨w.heap.size, 0, none⟩ = some (.string n) ∧ w'.cell? ⟨w.heap.size, 1, none⟩ = some (.slice (some ⟨b, o, none⟩) cs.length kc) ∧ w'.cell? ⟨w.heap.size, 2, none⟩ = some fv ∧ w'.cell? ⟨w.heap.size, 3, none⟩ = some (.int .i64 d) ∧ w'.cell? ⟨b, o + u * 8, none⟩ = some (.int .i64 x.id) ∧ w'.cell? ⟨b, o + u * 8 + 1, none⟩ = some (.int .i64 x.parent) ∧ w'.cell? ⟨b, o + u * 8 + 2, none⟩ = some (.int .i64 x.rate) ∧ w'.cell? ⟨b, o + u * 8 + 3, none⟩ = some (.int .i64 x.ceil) ∧ w'.cell? ⟨b, o + u * 8 + 4, none⟩ = some (.int .i64 x.burst) ∧ w'.cell? ⟨b, o + u * 8 + 5, none⟩ = some (.int .i64 x.cburst) ∧ w'.cell? ⟨b, o + u * 8 + 6, none⟩ = some (.int .i64 x.prio) ∧ w'.cell? ⟨b, o + u * 8 + 7, none⟩ = some (.int .i64 x.limit)) (first | (with_reducible exact ⟨q0, q1, q2, q3, c0, c1, c2, c3, c4, c5, c6, c7⟩) | go_keep)
      ((go_at_call 22; refine (spec_cfFind_any n _ fv d id cs _ ((Src.rd HC.out).ext (by (repeat (first | (with_reducible exact Ext.refl _) | (with_reducible assumption) | (with_reducible apply Ext.alloc) | (with_reducible apply Ext.drew) | (with_reducible apply Ext.drewN) | ((with_reducible refine Ext.setCell ?_ ?_ _); rotate_left; (focus (first | (simp; done) | (simp; omega) | omega))) | (with_reducible refine Ext.trans ?_ (by assumption)))))) (by omega)).mono ?_; rintro e w3 ⟨rfl, F3⟩; have X3 : Ext ((w.alloc (.cells #[.string n, .slice (some ⟨b, o, none⟩) cs.length kc, fv, .int .i64 d] 30)).alloc (.cells #[.string ⟨#[]⟩, .slice none 0 0, .slice none 0 0, .int .i64 0] 30)) w3 := (by (repeat (first | (with_reducible exact Ext.refl _) | (with_reducible assumption) | (with_reducible apply Ext.alloc) | (with_reducible apply Ext.drew) | (with_reducible apply Ext.drewN) | ((with_reducible refine Ext.setCell ?_ ?_ _); rotate_left; (focus (first | (simp; done) | (simp; omega) | omega))) | (with_reducible refine Ext.trans ?_ (by assumption))))); have E3 := E0.trans X3; obtain ⟨q0, q1, q2, q3, q4⟩ := BX.out.ext X3; have c0 : w3.cell? ⟨b, o + u * 8, none⟩ = some (.int .i64 x.id) := (by rw [Ext.cell E3 hbw]; exact HCELL.out 0 _ rfl); have c1 : w3.cell? ⟨b, o + u * 8 + 1, none⟩ = some (.int .i64 x.parent) := (by rw [Ext.cell E3 hbw]; exact HCELL.out 1 _ rfl); have c2 : w3.cell? ⟨b, o + u * 8 + 2, none⟩ = some (.int .i64 x.rate) := (by rw [Ext.cell E3 hbw]; exact HCELL.out 2 _ rfl); have c3 : w3.cell? ⟨b, o + u * 8 + 3, none⟩ = some (.int .i64 x.ceil) := (by rw [Ext.cell E3 hbw]; exact HCELL.out 3 _ rfl); have c4 : w3.cell? ⟨b, o + u * 8 + 4, none⟩ = some (.int .i64 x.burst) := (by rw [Ext.cell E3 hbw]; exact HCELL.out 4 _ rfl); have c5 : w3.cell? ⟨b, o + u * 8 + 5, none⟩ = some (.int .i64 x.cburst) := (by rw [Ext.cell E3 hbw]; exact HCELL.out 5 _ rfl); have c6 : w3.cell? ⟨b, o + u * 8 + 6, none⟩ = some (.int .i64 x.prio) := (by rw [Ext.cell E3 hbw]; exact HCELL.out 6 _ rfl); have c7 : w3.cell? ⟨b, o + u * 8 + 7, none⟩ = some (.int .i64 x.limit) := (by rw [Ext.cell E3 hbw]; exact HCELL.out 7 _ rfl); (try (have ZB : Blk w3 w2.heap.size 47 #[.int .i64 0, .int .i64 0, .int .i64 0, .int .i64 0, .int .i64 0, .int .i64 0, .int .i64 0, .int .i64 0] := Blk.ext (w := (w2.alloc (.cells #[.int .i64 0, .int .i64 0, .int .i64 0, .int .i64 0, .int .i64 0, .int .i64 0, .int .i64 0, .int .i64 0] 47)).drew) (Blk.drew (Blk.new w2 47 #[.int .i64 0, .int .i64 0, .int .i64 0, .int .i64 0, .int .i64 0, .int .i64 0, .int .i64 0, .int .i64 0])) (by with_reducible assumption); obtain ⟨⟨z0, z1, z2, z3, z4, z5, z6, z7⟩, ⟨y0, y1, y2, y3, y4, y5, y6, y7⟩⟩ := C8w.blk ZB))))
    · go_wp2_with fail
      go_meet
      have hs3 := Ext.size X3
      simp at hs3
      exact ⟨w3.heap.size, rfl, Blk.new _ _ _, by omega, X3.alloc _⟩
    · go_wp2_with fail
      go_meet
      have hs3 := Ext.size X3
      simp at hs3
      exact ⟨w2.heap.size, rfl, Blk.set8 ZB _ _ _ _ _ _ _ _, by omega, by (repeat (first | (with_reducible exact Ext.refl _) | (with_reducible assumption) | (with_reducible apply Ext.alloc) | (with_reducible apply Ext.drew) | (with_reducible apply Ext.drewN) | ((with_reducible refine Ext.setCell ?_ ?_ _); rotate_left; (focus (first | (simp; done) | (simp; omega) | omega))) | (with_reducible refine Ext.trans ?_ (by assumption))))⟩
  case rest =>
    obtain ⟨gx, rfl, BXX, hgx, X4⟩ := hcut
    obtain ⟨w4, rfl⟩ : ∃ x : World, x = wc := ⟨_, rfl⟩
    clear c0 c1 c2 c3 c4 c5 c6 c7 q0 q1 q2 q3 q4
    have E4 := E0.trans X4
    have hs4 := Ext.size X4
    simp at hs4
    have hgx4 := BXX.out.lt
    obtain ⟨q0, q1, q2, q3, q4⟩ := BX.out.ext X4
    have hn1 : ¬ w4.heap.size = w.heap.size := by omega
    have hn2 : ¬ w4.heap.size + 1 = w.heap.size := by omega
    go_upto_region 4 with fail
    go_cut [7] (fun s7 wx => ∃ (g7 : Nat) (A2 : Option Addr) (k2 : Nat), s7 = .pointer (some ⟨g7, 0, none⟩) ∧ Hid (Blk wx g7 30 #[.string n, .slice none 0 0, .slice A2 fs.length k2, .int .i64 d]) ∧ Hid (OwnF wx (w.heap.size + 2) (.slice A2 fs.length k2) fs) ∧ w.heap.size + 2 ≤ g7 ∧ gx ≠ g7 ∧ Ext w4 wx)
    case first =>
      go_region_held3 (fun w' => w'.cell? ⟨w.heap.size, 0, none⟩ = some (.string n) ∧ w'.cell? ⟨w.heap.size, 1, none⟩ = some (.slice (some ⟨b, o, none⟩) cs.length kc) ∧ w'.cell? ⟨w.heap.size, 2, none⟩ = some fv ∧ w'.cell? ⟨w.heap.size, 3, none⟩ = some (.int .i64 d)) (first | (with_reducible exact ⟨q0, q1, q2, q3⟩) | go_keep)
        ((refine step_freshF w4 _ _ (by rfl) _ _ (by rfl) fv fs (by rfl) (by rfl) (HF.out.ext (by (repeat (first | (with_reducible exact Ext.refl _) | (with_reducible assumption) | (with_reducible apply Ext.alloc) | (with_reducible apply Ext.drew) | (with_reducible apply Ext.drewN) | ((with_reducible refine Ext.setCell ?_ ?_ _); rotate_left; (focus (first | (simp; done) | (simp; omega) | omega))) | (with_reducible refine Ext.trans ?_ (by assumption)))))) (by first | (with_reducible exact (blk_new (by simp))) | (with_reducible exact (blk_new2 (by simp))) | (with_reducible exact (Blk.drew (blk_new (by simp)))) | (with_reducible exact (Blk.drew (blk_new2 (by simp)))) | (with_reducible exact Blk.kb (by assumption) (blk_new (by simp)) (by simp)) | (with_reducible exact Blk.kb (by assumption) (blk_new2 (by simp)) (by simp)) | (with_reducible exact Blk.kb (by assumption) (Blk.drew (blk_new (by simp))) (by simp)) | (with_reducible exact Blk.kb (by assumption) (Blk.drew (blk_new2 (by simp))) (by simp))) (by first | (simp; done) | (simp; omega) | omega) (by omega) (by (repeat (first | (with_reducible exact Ext.refl _) | (with_reducible assumption) | (with_reducible apply Ext.alloc) | (with_reducible apply Ext.drew) | (with_reducible apply Ext.drewN) | ((with_reducible refine Ext.setCell ?_ ?_ _); rotate_left; (focus (first | (simp; done) | (simp; omega) | omega))) | (with_reducible refine Ext.trans ?_ (by assumption))))) ?_; intro A2 k2 w5 O2 X5 K5 J5; have HO2 := Lib.hid O2; clear O2 J5; have hs5 := Ext.size X5; obtain ⟨q0, q1, q2, q3, q4⟩ := BX.out.ext (X4.trans X5); (first | (have TB : Blk w5 (w4.heap.size + 1) 30 #[.string ⟨#[]⟩, .slice none 0 0, .slice none 0 0, .int .i64 0] := Blk.kb (a := ((w4.alloc (.cells #[] 66)).alloc (.cells #[.string ⟨#[]⟩, .slice none 0 0, .slice none 0 0, .int .i64 0] 30)).drew) (by with_reducible assumption) (blkT1 _ _ _ _) (by simp); obtain ⟨⟨z0, z1, z2, z3⟩, ⟨y0, y1, y2, y3⟩, _⟩ := C4.blk TB) | (have TB : Blk w5 w4.heap.size 30 #[.string ⟨#[]⟩, .slice none 0 0, .slice none 0 0, .int .i64 0] := Blk.kb (a := ((w4.alloc (.cells #[.string ⟨#[]⟩, .slice none 0 0, .slice none 0 0, .int .i64 0] 30)).alloc (.cells #[] 66)).drew) (by with_reducible assumption) (blkT0 _ _ _ _) (by simp); obtain ⟨⟨z0, z1, z2, z3⟩, ⟨y0, y1, y2, y3⟩, _⟩ := C4.blk TB) | skip)))
      · go_wp2_with fail
        go_meet
        exact ⟨w5.heap.size, A2, k2, rfl, Blk.new _ _ _, Own.mono (Own.ext HO2.out ((Ext.refl _).alloc _)) (by omega), by omega, by omega, X5.alloc _⟩
      · go_wp2_with fail
        go_meet
        exact ⟨w4.heap.size + 1, A2, k2, rfl, Blk.set4 TB _ _ _ _, Own.mono ((((HO2.out.setOff (Own.ne_blk HO2.out TB (by decide)) 0 _).setOff (Own.ne_blk HO2.out TB (by decide)) 1 _).setOff (Own.ne_blk HO2.out TB (by decide)) 2 _).setOff (Own.ne_blk HO2.out TB (by decide)) 3 _) (by omega), by omega, by omega, by (repeat (first | (with_reducible exact Ext.refl _) | (with_reducible assumption) | (with_reducible apply Ext.alloc) | (with_reducible apply Ext.drew) | (with_reducible apply Ext.drewN) | ((with_reducible refine Ext.setCell ?_ ?_ _); rotate_left; (focus (first | (simp; done) | (simp; omega) | omega))) | (with_reducible refine Ext.trans ?_ (by assumption))))⟩
      · go_wp2_with fail
        go_meet
        exact ⟨w4.heap.size, A2, k2, rfl, Blk.set4 TB _ _ _ _, Own.mono ((((HO2.out.setOff (Own.ne_blk HO2.out TB (by decide)) 0 _).setOff (Own.ne_blk HO2.out TB (by decide)) 1 _).setOff (Own.ne_blk HO2.out TB (by decide)) 2 _).setOff (Own.ne_blk HO2.out TB (by decide)) 3 _) (by omega), by omega, by omega, by (repeat (first | (with_reducible exact Ext.refl _) | (with_reducible assumption) | (with_reducible apply Ext.alloc) | (with_reducible apply Ext.drew) | (with_reducible apply Ext.drewN) | ((with_reducible refine Ext.setCell ?_ ?_ _); rotate_left; (focus (first | (simp; done) | (simp; omega) | omega))) | (with_reducible refine Ext.trans ?_ (by assumption))))⟩
    case rest =>
      obtain ⟨g7, A2, k2, rfl, BN, OF2, hg7, hgx7, F5⟩ := hcut
      obtain ⟨w5, rfl⟩ : ∃ x : World, x = wc := ⟨_, rfl⟩
      have X5 := X4.trans F5
      have BXX5 := Lib.hid (BXX.out.ext F5)
      have hgx5 := BXX5.out.lt
      have hg75 := BN.out.lt
      have hs5 := Ext.size X5
      simp at hs5
      have nF : ∀ g', (Value.slice A2 fs.length k2).ownBlock = some g' → g' < w5.heap.size := fun g' h => (Own.lt OF2.out g' h).2
      clear q0 q1 q2 q3 q4
      obtain ⟨q0, q1, q2, q3, q4⟩ := BX.out.ext X5
      go_wp2_with fail
      clear q0 q1 q2 q3 q4
      go_loopw [40] (fun t wr => ∃ k : Nat, k ≤ cs.length ∧ t = .int .i64 (k : Int) ∧ (∃ vc, Hid (OwnC wr w5.heap.size vc (dropL (cs.take k) id)) ∧ Hid (Blk wr g7 30 #[.string n, vc, .slice A2 fs.length k2, .int .i64 d])) ∧ Hid (OwnF wr (w.heap.size + 2) (.slice A2 fs.length k2) fs) ∧ Hid (Blk wr gx 47 #[.int .i64 x.id, .int .i64 x.parent, .int .i64 x.rate, .int .i64 x.ceil, .int .i64 x.burst, .int .i64 x.cburst, .int .i64 x.prio, .int .i64 x.limit]) ∧ w5.heap.size ≤ wr.heap.size ∧ Ext ((w.alloc (.cells #[.string n, .slice (some ⟨b, o, none⟩) cs.length kc, fv, .int .i64 d] 30)).alloc (.cells #[.string ⟨#[]⟩, .slice none 0 0, .slice none 0 0, .int .i64 0] 30)) wr) (fun t _ => cs.length - (intOf t).toNat)
      case atStart => exact ⟨0, Nat.zero_le _, rfl, ⟨_, World.ownsRow_nil _ _ _ _, BN.out⟩, OF2.out, BXX5.out, Nat.le_refl _, X5⟩
      case round =>
        obtain ⟨k, hk, rfl, ⟨vc, hown, hbn⟩, hof, hbx, hwr, hx⟩ := hrel
        obtain ⟨⟨p0, p1, p2, p3⟩, ⟨g0, g1, g2, g3⟩, hp⟩ := C4.blk hbn.out
        by_cases hlt : k < cs.length
        · obtain ⟨hbk, hcell⟩ := HRD.out k cs[k] (List.getElem?_eq_getElem hlt)
          have hst := dropL_snoc cs id k hlt
          have hdk : (dropL (cs.take k) id).length ≤ 24 := by
            have := dropL_len (cs.take k) id
            rw [List.length_take] at this
            omega
          generalize cs[k] = y at hcell hst
          have HST := Lib.hid hst
          clear hst
          have E := E0.trans hx
          have c0 : wr.cell? ⟨b, o + k * 8, none⟩ = some (.int .i64 y.id) := by rw [Ext.cell E hbk]; exact hcell 0 _ rfl
          have c1 : wr.cell? ⟨b, o + k * 8 + 1, none⟩ = some (.int .i64 y.parent) := by rw [Ext.cell E hbk]; exact hcell 1 _ rfl
          have c2 : wr.cell? ⟨b, o + k * 8 + 2, none⟩ = some (.int .i64 y.rate) := by rw [Ext.cell E hbk]; exact hcell 2 _ rfl
          have c3 : wr.cell? ⟨b, o + k * 8 + 3, none⟩ = some (.int .i64 y.ceil) := by rw [Ext.cell E hbk]; exact hcell 3 _ rfl
          have c4 : wr.cell? ⟨b, o + k * 8 + 4, none⟩ = some (.int .i64 y.burst) := by rw [Ext.cell E hbk]; exact hcell 4 _ rfl
          have c5 : wr.cell? ⟨b, o + k * 8 + 5, none⟩ = some (.int .i64 y.cburst) := by rw [Ext.cell E hbk]; exact hcell 5 _ rfl
          have c6 : wr.cell? ⟨b, o + k * 8 + 6, none⟩ = some (.int .i64 y.prio) := by rw [Ext.cell E hbk]; exact hcell 6 _ rfl
          have c7 : wr.cell? ⟨b, o + k * 8 + 7, none⟩ = some (.int .i64 y.limit) := by rw [Ext.cell E hbk]; exact hcell 7 _ rfl
          clear hcell
          by_cases hy : y.id = id
          · have HY := Lib.hid hy
            have hne : (y.id != id) = false := by simp [hy]
            clear hy
            go_wp2
            go_roundw
            case rel => exact ⟨k + 1, by omega, by go_num, ⟨vc, by rw [HST.out, if_pos HY.out, List.append_nil]; exact hown.out.ext ((Ext.refl _).alloc _), hbn.out.ext ((Ext.refl _).alloc _)⟩, hof.out.ext ((Ext.refl _).alloc _), hbx.out.ext ((Ext.refl _).alloc _), by simp; omega, hx.alloc _⟩
            case measure => simp [intOf]; omega
          · have HY := Lib.hid hy
            have hne : (y.id != id) = true := by simp [hy]
            clear hy
            go_wp2_with (at_builtin; refine app_gC (y := y) (bs := w5.heap.size) (Own.ext hown.out (by (repeat (first | (with_reducible exact Ext.refl _) | (with_reducible assumption) | (with_reducible apply Ext.alloc) | (with_reducible apply Ext.drew) | (with_reducible apply Ext.drewN) | ((with_reducible refine Ext.setCell ?_ ?_ _); rotate_left; (focus (first | (simp; done) | (simp; omega) | omega))) | (with_reducible refine Ext.trans ?_ (by assumption)))))) (by omega) (by first | (simp; done) | (simp; omega) | omega) rfl rfl rfl (by first | rfl | (show Value.slice _ _ _ = _; simp; done)) ?_; intro v2 w6 hown2 hG2; obtain ⟨A3, k3, rfl, _, _⟩ := Own.rd hown2 Cls.len; have HO2 := Lib.hid hown2; have BC2 := Lib.hid ((hbn.out.ext (by (repeat (first | (with_reducible exact Ext.refl _) | (with_reducible assumption) | (with_reducible apply Ext.alloc) | (with_reducible apply Ext.drew) | (with_reducible apply Ext.drewN) | ((with_reducible refine Ext.setCell ?_ ?_ _); rotate_left; (focus (first | (simp; done) | (simp; omega) | omega))) | (with_reducible refine Ext.trans ?_ (by assumption)))))).grown hG2 (fun e => by have := (Own.lt hown.out _ e).1; omega)); have BX2 := Lib.hid ((hbx.out.ext (by (repeat (first | (with_reducible exact Ext.refl _) | (with_reducible assumption) | (with_reducible apply Ext.alloc) | (with_reducible apply Ext.drew) | (with_reducible apply Ext.drewN) | ((with_reducible refine Ext.setCell ?_ ?_ _); rotate_left; (focus (first | (simp; done) | (simp; omega) | omega))) | (with_reducible refine Ext.trans ?_ (by assumption)))))).grown hG2 (fun e => by have := (Own.lt hown.out _ e).1; omega)); have HF2 := Lib.hid ((Own.ext hof.out (by (repeat (first | (with_reducible exact Ext.refl _) | (with_reducible assumption) | (with_reducible apply Ext.alloc) | (with_reducible apply Ext.drew) | (with_reducible apply Ext.drewN) | ((with_reducible refine Ext.setCell ?_ ?_ _); rotate_left; (focus (first | (simp; done) | (simp; omega) | omega))) | (with_reducible refine Ext.trans ?_ (by assumption)))))).kept hG2 (fun g hg => .inr (fun h => by have := nF g h; have := (Own.lt hown.out g hg).1; omega))); have hw6 : w5.heap.size ≤ w6.heap.size := (by have := hG2.size; simp at this; omega); have HE2 := Lib.hid (Ext.grown (show Ext ((w.alloc (.cells #[.string n, .slice (some ⟨b, o, none⟩) cs.length kc, fv, .int .i64 d] 30)).alloc (.cells #[.string ⟨#[]⟩, .slice none 0 0, .slice none 0 0, .int .i64 0] 30)) _ by (repeat (first | (with_reducible exact Ext.refl _) | (with_reducible assumption) | (with_reducible apply Ext.alloc) | (with_reducible apply Ext.drew) | (with_reducible apply Ext.drewN) | ((with_reducible refine Ext.setCell ?_ ?_ _); rotate_left; (focus (first | (simp; done) | (simp; omega) | omega))) | (with_reducible refine Ext.trans ?_ (by assumption))))) hG2 (fun g hg => by have := (Own.lt hown.out g hg).1; simp; omega)); clear hown2 hG2 p0 p1 p2 p3 g0 g1 g2 g3 hp; obtain ⟨⟨p0, p1, p2, p3⟩, ⟨g0, g1, g2, g3⟩, hp⟩ := C4.blk BC2.out)
            go_wp2
            go_roundw
            case rel => exact ⟨k + 1, by omega, by go_num, ⟨_, by rw [HST.out, if_neg HY.out]; exact Own.setCell HO2.out (by omega) _ _, Lib.hid (by have := BC2.out.set_ 1 (.slice A3 (dropL (cs.take k) id ++ [y]).length k3); simpa using this)⟩, HF2.out.setOff (Own.ne_blk HF2.out BC2.out (by decide)) _ _, BX2.out.kept (fun h => hgx7 h.symm) _ _, by simpa using hw6, by have hx := HE2.out; (repeat (first | (with_reducible exact Ext.refl _) | (with_reducible assumption) | (with_reducible apply Ext.alloc) | (with_reducible apply Ext.drew) | (with_reducible apply Ext.drewN) | ((with_reducible refine Ext.setCell ?_ ?_ _); rotate_left; (focus (first | (simp; done) | (simp; omega) | omega))) | (with_reducible refine Ext.trans ?_ (by assumption))))⟩
            case measure => simp [intOf]; omega
        · obtain rfl : k = cs.length := by omega
          have HC6 := Lib.hid (show OwnC wr w5.heap.size vc D by have := hown.out; rwa [List.take_length, HD.out] at this)
          clear hown
          obtain ⟨A1, k1, rfl, _, _⟩ := Own.rd HC6.out Cls.len
          have E6 := E0.trans hx
          have BR6 := Lib.hid (BR.out.ext hx)
          obtain ⟨x0, x1, x7, hx8⟩ := C8.blk hbx.out
          go_wp2_with fail
          clear p0 p1 p2 p3 g0 g1 g2 g3 hp x0 x1 x7 hx8
          refine (spec_cfFind_any n _ _ d x.parent D _ (Own.rd HC6.out Cls.len) hdl).mono ?_
          rintro e w6 ⟨rfl, F6⟩
          rcases findI_bd D x.parent with hp | ⟨p, hp, hpl⟩
          · have HP := Lib.hid (show upLim D x.parent x.limit = D by rw [upLim, show leafIdB D x.parent = false by simp [leafIdB, hp]]; rfl)
            rw [hp]
            clear hp
            obtain ⟨⟨p0, p1, p2, p3⟩, _, hp4⟩ := C4.blk (hbn.out.ext F6)
            have E7 := E6.trans F6
            have HR := Lib.hid (show drR n cs fs d id = ifR n D fs d from HDR.out _ HP.out)
            go_wp2_with fail
            refine (spec_cfIf_any n _ _ _ _ _ _ d D fs _ (HK.out.ext E7) (Own.rd (HC6.out.ext F6) Cls.len) (Own.rd (hof.out.ext F6) Flt.len) hzd).mono ?_
            rintro e wf ⟨rfl, FF⟩
            obtain ⟨⟨r0, r1, r2, r3⟩, ⟨f0, f1, f2, f3⟩, hfz⟩ := C4.blk ((BR6.out.ext F6).ext FF)
            go_wp2
            refine bodyPost_ret (v := .tuple #[ifV (goodB n D fs d) n A1 D.length k1 A2 fs.length k2 d, .bool (goodB n D fs d)]) (by simp [results, Tryd.results13, go_sem, *]) rfl (retC_eq HR.out (retC_if ?_ ?_ ?_))
            · refine Own.mono (base := w.heap.size + 2) ?_ (by omega)
              repeat (with_reducible refine Own.setCell ?_ (by omega) _ _)
              exact Own.mono (Own.ext (HC6.out.ext F6) FF) (by first | exact Nat.le_refl _ | (simp; done) | omega)
            · refine Own.mono (base := w.heap.size + 2) ?_ (by omega)
              repeat (with_reducible refine Own.setCell ?_ (by omega) _ _)
              exact Own.mono (Own.ext (hof.out.ext F6) FF) (by first | exact Nat.le_refl _ | (simp; done) | omega)
            · have hx := Ext.trans E7 FF
              (repeat (first | (with_reducible exact Ext.refl _) | (with_reducible assumption) | (with_reducible apply Ext.alloc) | (with_reducible apply Ext.drew) | (with_reducible apply Ext.drewN) | ((with_reducible refine Ext.setCell ?_ ?_ _); rotate_left; (focus (first | (simp; done) | (simp; omega) | omega))) | (with_reducible refine Ext.trans ?_ (by assumption))))
          rw [hp]
          have HP := Lib.hid hp
          clear hp
          obtain ⟨⟨p0, p1, p2, p3⟩, _, hp4⟩ := C4.blk (hbn.out.ext F6)
          go_wp2_with fail
          clear p0 p1 p2 p3 hp4
          refine (spec_cfLeaf_any n _ _ d p D _ (Own.rd (HC6.out.ext F6) Cls.len) hpl hdl).mono ?_
          rintro e w7 ⟨rfl, F7⟩
          have F67 := F6.trans F7
          have E7 := E6.trans F67
          obtain ⟨⟨p0, p1, p2, p3⟩, _, hp4⟩ := C4.blk (hbn.out.ext F67)
          cases hlp : leafB D p
          · have HLP := Lib.hid (show upLim D x.parent x.limit = D by rw [upLim, show leafIdB D x.parent = false by simp [leafIdB, HP.out, hlp]]; rfl)
            have HR := Lib.hid (show drR n cs fs d id = ifR n D fs d from HDR.out _ HLP.out)
            go_wp2_with fail
            refine (spec_cfIf_any n _ _ _ _ _ _ d D fs _ (HK.out.ext E7) (Own.rd (HC6.out.ext F67) Cls.len) (Own.rd (hof.out.ext F67) Flt.len) hzd).mono ?_
            rintro e wf ⟨rfl, FF⟩
            obtain ⟨⟨r0, r1, r2, r3⟩, ⟨f0, f1, f2, f3⟩, hfz⟩ := C4.blk ((BR6.out.ext F67).ext FF)
            go_wp2
            refine bodyPost_ret (v := .tuple #[ifV (goodB n D fs d) n A1 D.length k1 A2 fs.length k2 d, .bool (goodB n D fs d)]) (by simp [results, Tryd.results13, go_sem, *]) rfl (retC_eq HR.out (retC_if ?_ ?_ ?_))
            · refine Own.mono (base := w.heap.size + 2) ?_ (by omega)
              repeat (with_reducible refine Own.setCell ?_ (by omega) _ _)
              exact Own.mono (Own.ext (HC6.out.ext F67) FF) (by first | exact Nat.le_refl _ | (simp; done) | omega)
            · refine Own.mono (base := w.heap.size + 2) ?_ (by omega)
              repeat (with_reducible refine Own.setCell ?_ (by omega) _ _)
              exact Own.mono (Own.ext (hof.out.ext F67) FF) (by first | exact Nat.le_refl _ | (simp; done) | omega)
            · have hx := Ext.trans E7 FF
              (repeat (first | (with_reducible exact Ext.refl _) | (with_reducible assumption) | (with_reducible apply Ext.alloc) | (with_reducible apply Ext.drew) | (with_reducible apply Ext.drewN) | ((with_reducible refine Ext.setCell ?_ ?_ _); rotate_left; (focus (first | (simp; done) | (simp; omega) | omega))) | (with_reducible refine Ext.trans ?_ (by assumption))))
          have HLP := Lib.hid (show upLim D x.parent x.limit = setLim D p x.limit by rw [upLim, show leafIdB D x.parent = true by simp [leafIdB, HP.out, hlp], HP.out]; rfl)
          obtain ⟨g, cap, _, hv, hgb, hglt, _⟩ := Own.blk HC6.out (by omega)
          injection hv with hv1 _ hv3
          subst hv1
          subst hv3
          have hg1 : g ≠ w.heap.size + 1 := by omega
          have hgn : ¬ g = g7 := by omega
          have hgxn : ¬ g = gx := by omega
          have n3 : (Value.slice A2 fs.length k2).ownBlock ≠ some g := fun h => by have := nF g h; omega
          obtain ⟨hcl, hfr⟩ := Own.cell_at (HC6.out.ext F67) p 7 D[p] (.int .i64 D[p].limit) (List.getElem?_eq_getElem hpl) Cls.len rfl
          obtain ⟨cs', HCS, OC⟩ : ∃ l, Hid (l = setLim D p x.limit) ∧ Hid (OwnC (w7.setCell ⟨g, p * 8 + 7, none⟩ (.int .i64 x.limit)) _ (.slice (some ⟨g, 0, none⟩) D.length k1) l) :=
            ⟨_, Lib.hid rfl, Lib.hid (by rw [setLim_at D p x.limit hpl]; exact Own.set_at' (HC6.out.ext F67) p 7 D[p] _ _ (List.getElem?_eq_getElem hpl) (by omega) Cls.len rfl)⟩
          have OF := Lib.hid ((hof.out.ext F67).setOff n3 (p * 8 + 7) (.int .i64 x.limit))
          have BRC := Lib.hid ((BR6.out.ext F67).kept hg1 (p * 8 + 7) (.int .i64 x.limit))
          have EC : Ext w (w7.setCell ⟨g, p * 8 + 7, none⟩ (.int .i64 x.limit)) := by (repeat (first | (with_reducible exact Ext.refl _) | (with_reducible assumption) | (with_reducible apply Ext.alloc) | (with_reducible apply Ext.drew) | (with_reducible apply Ext.drewN) | ((with_reducible refine Ext.setCell ?_ ?_ _); rotate_left; (focus (first | (simp; done) | (simp; omega) | omega))) | (with_reducible refine Ext.trans ?_ (by assumption))))
          obtain ⟨x0, x1, x7, hx8⟩ := C8.blk (hbx.out.ext F67)
          have hzD := hzd
          have hzd : n.size + cs'.length + fs.length ≤ 1048576 := by rw [HCS.out, setLim_len]; exact hzD
          clear hlp
          have HR := Lib.hid (show drR n cs fs d id = ifR n cs' fs d from HDR.out _ (HLP.out.trans HCS.out.symm))
          go_wp2_with fail
          refine (spec_cfIf_any n _ _ _ _ _ _ d cs' fs _ (HK.out.ext EC) (Own.rd OC.out Cls.len) (Own.rd OF.out Flt.len) hzd).mono ?_
          rintro e wf ⟨rfl, FF⟩
          obtain ⟨⟨r0, r1, r2, r3⟩, ⟨f0, f1, f2, f3⟩, hfz⟩ := C4.blk (BRC.out.ext FF)
          go_wp2
          refine bodyPost_ret (v := .tuple #[ifV (goodB n cs' fs d) n (some ⟨g, 0, none⟩) D.length k1 A2 fs.length k2 d, .bool (goodB n cs' fs d)]) (by simp [results, Tryd.results13, go_sem, *]) rfl (retC_eq HR.out (retC_if ?_ ?_ ?_))
          · refine Own.mono (base := w.heap.size + 2) ?_ (by omega)
            repeat (with_reducible refine Own.setCell ?_ (by omega) _ _)
            exact Own.mono (Own.ext OC.out FF) (by first | exact Nat.le_refl _ | (simp; done) | omega)
          · refine Own.mono (base := w.heap.size + 2) ?_ (by omega)
            repeat (with_reducible refine Own.setCell ?_ (by omega) _ _)
            exact Own.mono (Own.ext OF.out FF) (by first | exact Nat.le_refl _ | (simp; done) | omega)
          · have hx := Ext.trans EC FF
            (repeat (first | (with_reducible exact Ext.refl _) | (with_reducible assumption) | (with_reducible apply Ext.alloc) | (with_reducible apply Ext.drew) | (with_reducible apply Ext.drewN) | ((with_reducible refine Ext.setCell ?_ ?_ _); rotate_left; (focus (first | (simp; done) | (simp; omega) | omega))) | (with_reducible refine Ext.trans ?_ (by assumption))))
end Go.Proofs.YtidahgoihgodnaaDoor
