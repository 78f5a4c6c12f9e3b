/- RaiseRates: contract of the reference's side. Printed by wip/tools/gen_rai3.py. -/
import Derived.Test.YtidahgoihgodnaaDoorRaiV
import Derived.Deep.DeepCutAuto
import Derived.Deep.RegionWith
namespace Go.Proofs.YtidahgoihgodnaaDoor
open Go.RowKit
set_option maxRecDepth 20000
set_option maxHeartbeats 4000000
set_option linter.unusedSimpArgs false
set_option linter.unusedVariables false

theorem spec_RaiseRates_any (n : ByteArray) (cv fv : Value) (d : Int) (cs : List Cls) (fs : List Flt) (w : World) (hk : Keys w) (hc : SrcC w cv cs) (hf : SrcF w fv fs) (hz : n.size + cs.length + fs.length ≤ 1048576) :
    Calls Tryd.prog 15 #[cfgV n cv fv d] w (RetC (rrR n cs fs d) w) := by
  obtain ⟨CA, cc, rfl, hcc, _⟩ := Src.rd hc
  obtain ⟨FA, fc, rfl, hfc, _⟩ := Src.rd hf
  have HC := Lib.hid hc
  have HF := Lib.hid hf
  have HK := Lib.hid hk
  clear hc hf hk
  have E0 : Ext w ((w.alloc (.cells #[.string n, .slice CA cs.length cc, .slice FA fs.length fc, .int .i64 d] 30)).alloc (.cells #[.string ⟨#[]⟩, .slice none 0 0, .slice none 0 0, .int .i64 0] 30)) := by (repeat (first | (with_reducible exact Ext.refl _) | (with_reducible assumption) | (with_reducible apply Ext.alloc) | (with_reducible apply Ext.drew) | (with_reducible apply Ext.drewN) | ((with_reducible refine Ext.setCell ?_ ?_ _); rotate_left; (focus (first | (simp; done) | (simp; omega) | omega))) | (with_reducible refine Ext.trans ?_ (by assumption))))
  have BX := Lib.hid ((Box.new w n (.slice CA cs.length cc) (.slice FA fs.length fc) d 30).ext ((Ext.refl _).alloc (.cells #[.string ⟨#[]⟩, .slice none 0 0, .slice none 0 0, .int .i64 0] 30)))
  have BR := Lib.hid (show Blk ((w.alloc (.cells #[.string n, .slice CA cs.length cc, .slice FA fs.length fc, .int .i64 d] 30)).alloc (.cells #[.string ⟨#[]⟩, .slice none 0 0, .slice none 0 0, .int .i64 0] 30)) (w.heap.size + 1) 30 #[.string ⟨#[]⟩, .slice none 0 0, .slice none 0 0, .int .i64 0] by
    have := Blk.new (w.alloc (.cells #[.string n, .slice CA cs.length cc, .slice FA fs.length fc, .int .i64 d] 30)) 30 #[.string ⟨#[]⟩, .slice none 0 0, .slice none 0 0, .int .i64 0]
    simpa using this)
  go_enter Tryd.func15, Tryd.ntmps15
  go_wp2_with fail
  refine (spec_vaAsked_any n _ _ d cs fs _ ((Src.rd HC.out).ext E0) ((Src.rd HF.out).ext E0) (by omega) (by omega)).mono ?_
  rintro e w1 ⟨rfl, X1⟩
  have E1 := E0.trans X1
  obtain ⟨q0, q1, q2, q3, q4⟩ := BX.out.ext X1
  cases hr : smallCf cs fs
  · have HRW := Lib.hid (show TreeB cs = false ∨ ¬ fs.length ≤ 16 ∨ cntB cs = false from (by
      by_cases h24 : cs.length ≤ 24
      · right; left
        intro h16
        simp [smallCf] at hr
        omega
      · exact .inl (tree_no24 h24)))
    have HR := Lib.hid (show rrR n cs fs d = noCfg from rrR_no HRW.out)
    obtain ⟨⟨r0, r1, r2, r3⟩, ⟨f0, f1, f2, f3⟩, hfz⟩ := C4.blk (BR.out.ext X1)
    go_wp2
    refine bodyPost_ret (v := .tuple #[cfgV ⟨#[]⟩ (.slice none 0 0) (.slice none 0 0) 0, .bool false]) (by simp [results, Tryd.results15, go_sem, *]) rfl (retC_no HR.out ?_)
    (repeat (first | (with_reducible exact Ext.refl _) | (with_reducible assumption) | (with_reducible apply Ext.alloc) | (with_reducible apply Ext.drew) | (with_reducible apply Ext.drewN) | ((with_reducible refine Ext.setCell ?_ ?_ _); rotate_left; (focus (first | (simp; done) | (simp; omega) | omega))) | (with_reducible refine Ext.trans ?_ (by assumption))))
  obtain ⟨hl40, hf40⟩ : cs.length ≤ 40 ∧ fs.length ≤ 40 := by simpa [smallCf] using hr
  clear hr
  go_wp2_with fail
  clear q0 q1 q2 q3 q4
  refine (spec_vaRates_any n _ _ d cs _ ((Src.rd HC.out).ext E1) (by omega)).mono ?_
  rintro e v6 ⟨rfl, F6⟩
  have Y6 := X1.trans F6
  have E6 := E0.trans Y6
  obtain ⟨q0, q1, q2, q3, q4⟩ := BX.out.ext Y6
  cases h6 : cntB cs
  · have HRW := Lib.hid (show TreeB cs = false ∨ ¬ fs.length ≤ 16 ∨ cntB cs = false from .inr (.inr h6))
    have HR := Lib.hid (show rrR n cs fs d = noCfg from rrR_no HRW.out)
    obtain ⟨⟨r0, r1, r2, r3⟩, ⟨f0, f1, f2, f3⟩, hfz⟩ := C4.blk (BR.out.ext Y6)
    go_wp2
    refine bodyPost_ret (v := .tuple #[cfgV ⟨#[]⟩ (.slice none 0 0) (.slice none 0 0) 0, .bool false]) (by simp [results, Tryd.results15, go_sem, *]) rfl (retC_no HR.out ?_)
    (repeat (first | (with_reducible exact Ext.refl _) | (with_reducible assumption) | (with_reducible apply Ext.alloc) | (with_reducible apply Ext.drew) | (with_reducible apply Ext.drewN) | ((with_reducible refine Ext.setCell ?_ ?_ _); rotate_left; (focus (first | (simp; done) | (simp; omega) | omega))) | (with_reducible refine Ext.trans ?_ (by assumption))))
  have HN := Lib.hid h6
  clear h6
  go_wp2_with fail
  clear q0 q1 q2 q3 q4
  refine (spec_cfOwn_any n _ _ d cs fs _ (HC.out.ext E6) (HF.out.ext E6) (by omega) (by omega)).mono ?_
  rintro e w4 ⟨u1, u2, rfl, O1, O2, F4⟩
  have X4 := Y6.trans F4
  have E4 := E0.trans X4
  have HG := Lib.hid (show 0 < cs.length → ∃ g cap, u1 = .slice (some ⟨g, 0, none⟩) cs.length cap ∧ v6.heap.size ≤ g ∧ g < w4.heap.size from fun h => by
    obtain ⟨g, cap, cells, h1, hb, hglt, _⟩ := Own.blk O1 h
    exact ⟨g, cap, h1, hb, hglt⟩)
  obtain ⟨A1, k1, rfl, _, _⟩ := Own.rd O1 Cls.len
  obtain ⟨A2, k2, rfl, _, _⟩ := Own.rd O2 Flt.len
  have HO1 := Lib.hid O1
  have HO2 := Lib.hid O2
  clear O1 O2
  have hs3 := Ext.size Y6
  have hs4 := Ext.size F4
  simp at hs3
  have OB1 := Lib.hid (show OwnC (w4.alloc (.cells #[.string n, (.slice A1 cs.length k1), (.slice A2 fs.length k2), .int .i64 d] 30)) v6.heap.size (.slice A1 cs.length k1) cs from HO1.out.ext ((Ext.refl w4).alloc _))
  have OB2 := Lib.hid (show OwnF (w4.alloc (.cells #[.string n, (.slice A1 cs.length k1), (.slice A2 fs.length k2), .int .i64 d] 30)) v6.heap.size (.slice A2 fs.length k2) fs from HO2.out.ext ((Ext.refl w4).alloc _))
  have BN := Lib.hid (Blk.new w4 30 #[.string n, (.slice A1 cs.length k1), (.slice A2 fs.length k2), .int .i64 d])
  have XB : Ext ((w.alloc (.cells #[.string n, .slice CA cs.length cc, .slice FA fs.length fc, .int .i64 d] 30)).alloc (.cells #[.string ⟨#[]⟩, .slice none 0 0, .slice none 0 0, .int .i64 0] 30)) (w4.alloc (.cells #[.string n, (.slice A1 cs.length k1), (.slice A2 fs.length k2), .int .i64 d] 30)) := by
    have := Ext.size X4
    simp at this
    (repeat (first | (with_reducible exact Ext.refl _) | (with_reducible assumption) | (with_reducible apply Ext.alloc) | (with_reducible apply Ext.drew) | (with_reducible apply Ext.drewN) | ((with_reducible refine Ext.setCell ?_ ?_ _); rotate_left; (focus (first | (simp; done) | (simp; omega) | omega))) | (with_reducible refine Ext.trans ?_ (by assumption))))
  have n4 : (Value.slice A2 fs.length k2).ownBlock ≠ some w4.heap.size := fun h => by have := (Own.lt HO2.out _ h).2; omega
  have hw4 : ¬ w4.heap.size = w.heap.size := by omega
  obtain ⟨q0, q1, q2, q3, q4⟩ := BX.out.ext X4
  go_wp2
  clear q0 q1 q2 q3 q4
  go_loopw [5] (fun t wr => ∃ (m : Nat) (z : Int), z + m = cs.length ∧ 0 ≤ z ∧ t = .int .i64 z ∧ (∃ L, Hid (Sp cs m 0 L) ∧ Hid (OwnC wr v6.heap.size (.slice A1 cs.length k1) L)) ∧ Hid (OwnF wr v6.heap.size (.slice A2 fs.length k2) fs) ∧ Hid (Blk wr w4.heap.size 30 #[.string n, (.slice A1 cs.length k1), (.slice A2 fs.length k2), .int .i64 d]) ∧ w4.heap.size < wr.heap.size ∧ Ext ((w.alloc (.cells #[.string n, .slice CA cs.length cc, .slice FA fs.length fc, .int .i64 d] 30)).alloc (.cells #[.string ⟨#[]⟩, .slice none 0 0, .slice none 0 0, .int .i64 0] 30)) wr) (fun t _ => (intOf t).toNat)
  case atStart => exact ⟨0, cs.length, by omega, by omega, rfl, ⟨cs, sp_start cs, OB1.out⟩, OB2.out, BN.out, by simp, XB⟩
  case round =>
    obtain ⟨m, z, hz8, hz0, rfl, ⟨L, hL, hown⟩, hof, hbn, hwr, hx⟩ := hrel
    obtain ⟨⟨p0, p1, p2, p3⟩, ⟨g0, g1, g2, g3⟩, hp⟩ := C4.blk hbn.out
    by_cases hze : z = 0
    · subst hze
      obtain rfl : m = cs.length := by omega
      go_wp2
      go_loopw [66] (fun t wi => ∃ k : Nat, k ≤ cs.length ∧ t = .int .i64 (k : Int) ∧ (∃ L, Hid (Sc cs k L) ∧ Hid (OwnC wi v6.heap.size (.slice A1 cs.length k1) L)) ∧ Hid (OwnF wi v6.heap.size (.slice A2 fs.length k2) fs) ∧ Hid (Blk wi w4.heap.size 30 #[.string n, (.slice A1 cs.length k1), (.slice A2 fs.length k2), .int .i64 d]) ∧ w4.heap.size < wi.heap.size ∧ Ext ((w.alloc (.cells #[.string n, .slice CA cs.length cc, .slice FA fs.length fc, .int .i64 d] 30)).alloc (.cells #[.string ⟨#[]⟩, .slice none 0 0, .slice none 0 0, .int .i64 0] 30)) wi) (fun t _ => cs.length - (intOf t).toNat)
      case atStart => exact ⟨0, Nat.zero_le _, rfl, ⟨L, sc_start hL.out, hown.out⟩, hof.out, hbn.out, hwr, hx⟩
      case round =>
        clear p0 p1 p2 p3 g0 g1 g2 g3 hp hwr
        obtain ⟨k, hk, rfl, ⟨L2, hL2, hown2⟩, hof2, hbn2, hwr2, hx2⟩ := hrel
        obtain ⟨⟨p0, p1, p2, p3⟩, ⟨g0, g1, g2, g3⟩, hp⟩ := C4.blk hbn2.out
        have hll := hL2.out.1.len
        by_cases hlt : k < cs.length
        · obtain ⟨g, cap, hu, hb, hglt⟩ := HG.out (by omega)
          cases hu
          have hgn : ¬ g = w4.heap.size := by omega
          have hgw : ¬ g = w.heap.size := by omega
          have n3 : (Value.slice A2 fs.length k2).ownBlock ≠ some g := fun h => Own.apart HO2.out HO1.out (by decide) g h rfl
          obtain ⟨x, hx0, hnx⟩ := sc_at hL2.out hlt
          have HX := Lib.hid hx0
          have HNX := Lib.hid hnx
          clear hx0 hnx
          have HO2' := Lib.hid (show OwnC wr v6.heap.size (.slice (some ⟨g, 0, none⟩) L2.length _) L2 by rw [hll]; exact hown2.out)
          obtain ⟨c0, _⟩ := Own.cell_at HO2'.out k 0 x (.int .i64 x.id) HX.out Cls.len rfl
          obtain ⟨c1, _⟩ := Own.cell_at HO2'.out k 1 x (.int .i64 x.parent) HX.out Cls.len rfl
          obtain ⟨c2, _⟩ := Own.cell_at HO2'.out k 2 x (.int .i64 x.rate) HX.out Cls.len rfl
          obtain ⟨c3, _⟩ := Own.cell_at HO2'.out k 3 x (.int .i64 x.ceil) HX.out Cls.len rfl
          obtain ⟨c4, _⟩ := Own.cell_at HO2'.out k 4 x (.int .i64 x.burst) HX.out Cls.len rfl
          obtain ⟨c5, _⟩ := Own.cell_at HO2'.out k 5 x (.int .i64 x.cburst) HX.out Cls.len rfl
          obtain ⟨c6, _⟩ := Own.cell_at HO2'.out k 6 x (.int .i64 x.prio) HX.out Cls.len rfl
          obtain ⟨c7, _⟩ := Own.cell_at HO2'.out k 7 x (.int .i64 x.limit) HX.out Cls.len rfl
          have c0 : wr.cell? ⟨g, k * 8, none⟩ = some (.int .i64 x.id) := by simpa using c0
          have XA := (Ext.refl wr).alloc (.cells #[.int .i64 x.id, .int .i64 x.parent, .int .i64 x.rate, .int .i64 x.ceil, .int .i64 x.burst, .int .i64 x.cburst, .int .i64 x.prio, .int .i64 x.limit] 47)
          have BXX := Lib.hid (Blk.new wr 47 #[.int .i64 x.id, .int .i64 x.parent, .int .i64 x.rate, .int .i64 x.ceil, .int .i64 x.burst, .int .i64 x.cburst, .int .i64 x.prio, .int .i64 x.limit])
          have hgr : ¬ g = wr.heap.size := by omega
          go_wp2_with fail
          clear c0 c1 c2 c3 c4 c5 c6 c7 p0 p1 p2 p3 g0 g1 g2 g3 hp
          obtain ⟨⟨p0, p1, p2, p3⟩, ⟨g0, g1, g2, g3⟩, hp⟩ := C4.blk (hbn2.out.ext XA)
          obtain ⟨⟨z0, z1, z2, z3, z4, z5, z6, z7⟩, ⟨y0, y1, y2, y3, y4, y5, y6, y7⟩⟩ := C8w.blk BXX.out
          go_region_held3 (fun w' => w'.cell? ⟨w4.heap.size, 1, none⟩ = some (.slice (some ⟨g, 0, none⟩) cs.length k1) ∧ w'.cell? ⟨wr.heap.size, 2, none⟩ = some (.int .i64 x.rate) ∧ w'.cell? ⟨wr.heap.size, 3, none⟩ = some (.int .i64 x.ceil)) (first | (with_reducible exact ⟨p1, z2, z3⟩) | go_keep)
            ((go_at_call 43; refine (spec_l1Most_any x.ceil x.rate _).mono ?_; rintro e w7 ⟨rfl, F7⟩; have X7 : Ext (wr.alloc (.cells #[.int .i64 x.id, .int .i64 x.parent, .int .i64 x.rate, .int .i64 x.ceil, .int .i64 x.burst, .int .i64 x.cburst, .int .i64 x.prio, .int .i64 x.limit] 47)) w7 := (by (repeat (first | (with_reducible exact Ext.refl _) | (with_reducible assumption) | (with_reducible apply Ext.alloc) | (with_reducible apply Ext.drew) | (with_reducible apply Ext.drewN) | ((with_reducible refine Ext.setCell ?_ ?_ _); rotate_left; (focus (first | (simp; done) | (simp; omega) | omega))) | (with_reducible refine Ext.trans ?_ (by assumption))))); obtain ⟨⟨p0, p1, p2, p3⟩, ⟨g0, g1, g2, g3⟩, hp⟩ := C4.blk (hbn2.out.ext (XA.trans X7)); obtain ⟨⟨z0, z1, z2, z3, z4, z5, z6, z7⟩, ⟨y0, y1, y2, y3, y4, y5, y6, y7⟩⟩ := C8w.blk (BXX.out.ext X7); obtain ⟨hcl, hfr⟩ := Own.cell_at (HO2'.out.ext (XA.trans X7)) k 3 x (.int .i64 x.ceil) HX.out Cls.len rfl))
          all_goals
            go_wp2_with fail
            go_roundw
            case rel =>
              refine ⟨k + 1, by omega, by go_num, ⟨L2.set k { x with ceil := max x.ceil x.rate }, HNX.out, ?_⟩, ?_, ?_, ?_, ?_⟩
              · have h := Own.set_at' (HO2'.out.ext (XA.trans X7)) k 3 x { x with ceil := max x.ceil x.rate } _ HX.out (by omega) Cls.len rfl
                rw [hll] at h
                first | exact h | exact h.ext ((Ext.refl _).drew)
              · have h := (hof2.out.ext (XA.trans X7)).setOff n3 (k * 8 + 3) (.int .i64 (max x.ceil x.rate))
                first | exact h | exact h.ext ((Ext.refl _).drew)
              · have h := (hbn2.out.ext (XA.trans X7)).kept hgn (k * 8 + 3) (.int .i64 (max x.ceil x.rate))
                first | exact h | exact h.ext ((Ext.refl _).drew)
              · simp; omega
              · have hx7 := hx2.trans (XA.trans X7)
                (repeat (first | (with_reducible exact Ext.refl _) | (with_reducible assumption) | (with_reducible apply Ext.alloc) | (with_reducible apply Ext.drew) | (with_reducible apply Ext.drewN) | ((with_reducible refine Ext.setCell ?_ ?_ _); rotate_left; (focus (first | (simp; done) | (simp; omega) | omega))) | (with_reducible refine Ext.trans ?_ (by assumption))))
            case measure => simp [intOf]; omega
        · obtain rfl : k = cs.length := by omega
          have hzd : n.size + L2.length + fs.length ≤ 1048576 := by omega
          have EW := E0.trans hx2
          have HR := Lib.hid (show rrR n cs fs d = ifR n L2 fs d from sc_end HN.out hL2.out)
          go_wp2_with fail
          refine (spec_cfIf_any n _ _ _ _ _ _ d L2 fs _ (HK.out.ext EW) (Own.rd hown2.out Cls.len) (Own.rd hof2.out Flt.len) hzd).mono ?_
          rintro e wf ⟨rfl, FF⟩
          obtain ⟨⟨r0, r1, r2, r3⟩, ⟨f0, f1, f2, f3⟩, hfz⟩ := C4.blk ((BR.out.ext hx2).ext FF)
          go_wp2
          refine bodyPost_ret (v := .tuple #[ifV (goodB n L2 fs d) n A1 cs.length k1 A2 fs.length k2 d, .bool (goodB n L2 fs d)]) (by simp [results, Tryd.results15, go_sem, *]) rfl (retC_eq HR.out (retC_if ?_ ?_ ?_))
          · refine Own.mono (base := v6.heap.size) ?_ (by omega)
            repeat (with_reducible refine Own.setCell ?_ (by omega) _ _)
            exact Own.mono (Own.ext hown2.out FF) (by first | exact Nat.le_refl _ | (simp; done) | omega)
          · refine Own.mono (base := v6.heap.size) ?_ (by omega)
            repeat (with_reducible refine Own.setCell ?_ (by omega) _ _)
            exact Own.mono (Own.ext hof2.out FF) (by first | exact Nat.le_refl _ | (simp; done) | omega)
          · have hx := Ext.trans EW FF
            (repeat (first | (with_reducible exact Ext.refl _) | (with_reducible assumption) | (with_reducible apply Ext.alloc) | (with_reducible apply Ext.drew) | (with_reducible apply Ext.drewN) | ((with_reducible refine Ext.setCell ?_ ?_ _); rotate_left; (focus (first | (simp; done) | (simp; omega) | omega))) | (with_reducible refine Ext.trans ?_ (by assumption))))
    · have hz1 : (0 : Int) < z := by omega
      go_wp2
      go_loopw [32] (fun t wi => ∃ k : Nat, k ≤ cs.length ∧ t = .int .i64 (k : Int) ∧ (∃ L, Hid (Sp cs m k L) ∧ Hid (OwnC wi v6.heap.size (.slice A1 cs.length k1) L)) ∧ Hid (OwnF wi v6.heap.size (.slice A2 fs.length k2) fs) ∧ Hid (Blk wi w4.heap.size 30 #[.string n, (.slice A1 cs.length k1), (.slice A2 fs.length k2), .int .i64 d]) ∧ w4.heap.size < wi.heap.size ∧ Ext ((w.alloc (.cells #[.string n, .slice CA cs.length cc, .slice FA fs.length fc, .int .i64 d] 30)).alloc (.cells #[.string ⟨#[]⟩, .slice none 0 0, .slice none 0 0, .int .i64 0] 30)) wi) (fun t _ => cs.length - (intOf t).toNat)
      case atStart => exact ⟨0, Nat.zero_le _, rfl, ⟨L, hL.out, hown.out⟩, hof.out, hbn.out, hwr, hx⟩
      case round =>
        clear p0 p1 p2 p3 g0 g1 g2 g3 hp hwr
        obtain ⟨k, hk, rfl, ⟨L2, hL2, hown2⟩, hof2, hbn2, hwr2, hx2⟩ := hrel
        obtain ⟨⟨p0, p1, p2, p3⟩, ⟨g0, g1, g2, g3⟩, hp⟩ := C4.blk hbn2.out
        by_cases hlt : k < cs.length
        · obtain ⟨g, cap, hu, hb, hglt⟩ := HG.out (by omega)
          have hll := hL2.out.1.len
          cases hu
          have hgn : ¬ g = w4.heap.size := by omega
          have hgw : ¬ g = w.heap.size := by omega
          have n3 : (Value.slice A2 fs.length k2).ownBlock ≠ some g := fun h => Own.apart HO2.out HO1.out (by decide) g h rfl
          obtain ⟨q0, q1, q2, q3, q4⟩ := BX.out.ext hx2
          go_wp2_with fail
          clear q0 q1 q2 q3 q4 p0 p1 p2 p3 g0 g1 g2 g3 hp
          refine (spec_vaWay_any n _ _ d k cs _ ((Src.rd HC.out).ext (E0.trans hx2)) hlt (by omega)).mono ?_
          rintro e w5 ⟨rfl, F5⟩
          have HW := Lib.hid (show TreeB cs = true → wayA (upF cs) k cs.length = (depU cs k : Int) from fun h => (tree_dep h k hlt).2.2.2)
          generalize wayA (upF cs) k cs.length = wa at *
          generalize lastA (upF cs) k cs.length = la at *
          have hx5 := hx2.trans F5
          have hs5 := Ext.size F5
          have HO5 := Lib.hid (hown2.out.ext F5)
          have HF5 := Lib.hid (hof2.out.ext F5)
          have BN5 := Lib.hid (hbn2.out.ext F5)
          obtain ⟨⟨p0, p1, p2, p3⟩, ⟨g0, g1, g2, g3⟩, hp⟩ := C4.blk BN5.out
          by_cases hd : wa = z
          · subst hd
            obtain ⟨x, hx0, hnx⟩ := sp_at HN.out hL2.out hlt (fun t => by have := HW.out t; omega)
            have HX := Lib.hid hx0
            have HNX := Lib.hid hnx
            clear hx0 hnx
            go_wp2_with fail
            clear p0 p1 p2 p3 g0 g1 g2 g3 hp
            refine (spec_cfSpareB_any n _ _ d k L2 _ (Own.rd HO5.out Cls.len) (by omega) (by omega)).mono ?_
            rintro e w6 ⟨s, rfl, hs, F6⟩
            have HS := Lib.hid hs
            clear hs
            have hx6 := hx5.trans F6
            have hs6 := Ext.size F6
            have HO6 := Lib.hid (HO5.out.ext F6)
            have HF6 := Lib.hid (HF5.out.ext F6)
            have BN6 := Lib.hid (BN5.out.ext F6)
            obtain ⟨⟨p0, p1, p2, p3⟩, ⟨g0, g1, g2, g3⟩, hp⟩ := C4.blk BN6.out
            by_cases h0 : s < 0
            · have HO6' := Lib.hid (show OwnC w6 v6.heap.size (.slice (some ⟨g, 0, none⟩) L2.length _) L2 by rw [hll]; exact HO6.out)
              obtain ⟨hcl, hfr⟩ := Own.cell_at HO6'.out k 2 x (.int .i64 x.rate) HX.out Cls.len rfl
              go_wp2_with fail
              go_region_with
                ((go_at_call 42; refine (spec_cfSpareB_any n _ _ d k L2 _ ((Own.rd HO6.out Cls.len).ext (by (repeat (first | (with_reducible exact Ext.refl _) | (with_reducible assumption) | (with_reducible apply Ext.alloc) | (with_reducible apply Ext.drew) | (with_reducible apply Ext.drewN) | ((with_reducible refine Ext.setCell ?_ ?_ _); rotate_left; (focus (first | (simp; done) | (simp; omega) | omega))) | (with_reducible refine Ext.trans ?_ (by assumption)))))) (by omega) (by omega)).mono ?_; rintro e w7 ⟨s2, rfl, hs2, F7⟩; have X7 : Ext w6 w7 := (by (repeat (first | (with_reducible exact Ext.refl _) | (with_reducible assumption) | (with_reducible apply Ext.alloc) | (with_reducible apply Ext.drew) | (with_reducible apply Ext.drewN) | ((with_reducible refine Ext.setCell ?_ ?_ _); rotate_left; (focus (first | (simp; done) | (simp; omega) | omega))) | (with_reducible refine Ext.trans ?_ (by assumption))))); have HS2 := Lib.hid hs2; clear hs2; obtain ⟨⟨p0, p1, p2, p3⟩, ⟨g0, g1, g2, g3⟩, hp⟩ := C4.blk (BN6.out.ext X7); obtain ⟨hcl, hfr⟩ := Own.cell_at (HO6'.out.ext X7) k 2 x (.int .i64 x.rate) HX.out Cls.len rfl))
              all_goals
                go_wp2_with fail
                go_roundw
                case rel =>
                  refine ⟨k + 1, by omega, by go_num, ⟨L2.set k { x with rate := wrap64 (x.rate - s2) }, (HNX.out s HS.out).2 h0 s2 HS2.out, ?_⟩, ?_, ?_, ?_, ?_⟩
                  · have h := Own.set_at' (HO6'.out.ext X7) k 2 x { x with rate := wrap64 (x.rate - s2) } _ HX.out (by omega) Cls.len rfl
                    rw [hll] at h
                    first | exact h | exact h.ext ((Ext.refl _).drew)
                  · have h := (HF6.out.ext X7).setOff n3 (k * 8 + 2) (.int .i64 (wrap64 (x.rate - s2)))
                    first | exact h | exact h.ext ((Ext.refl _).drew)
                  · have h := (BN6.out.ext X7).kept hgn (k * 8 + 2) (.int .i64 (wrap64 (x.rate - s2)))
                    first | exact h | exact h.ext ((Ext.refl _).drew)
                  · simp; omega
                  · have hx7 := hx6.trans X7
                    (repeat (first | (with_reducible exact Ext.refl _) | (with_reducible assumption) | (with_reducible apply Ext.alloc) | (with_reducible apply Ext.drew) | (with_reducible apply Ext.drewN) | ((with_reducible refine Ext.setCell ?_ ?_ _); rotate_left; (focus (first | (simp; done) | (simp; omega) | omega))) | (with_reducible refine Ext.trans ?_ (by assumption))))
                case measure => simp [intOf]; omega
            · go_wp2
              go_roundw
              case rel => exact ⟨k + 1, by omega, by go_num, ⟨L2, (HNX.out s HS.out).1 h0, HO6.out⟩, HF6.out, BN6.out, by omega, hx6⟩
              case measure => simp [intOf]; omega
          · go_wp2
            go_roundw
            case rel => exact ⟨k + 1, by omega, by go_num, ⟨L2, sp_skip hL2.out (fun t => by have := HW.out t; omega), HO5.out⟩, HF5.out, BN5.out, by omega, hx5⟩
            case measure => simp [intOf]; omega
        · obtain rfl : k = cs.length := by omega
          go_wp2
          go_roundw
          case rel => exact ⟨m + 1, z - 1, by omega, by omega, by go_num, ⟨L2, sp_next hL2.out, hown2.out⟩, hof2.out, hbn2.out, hwr2, hx2⟩
          case measure => simp [intOf]; omega
end Go.Proofs.YtidahgoihgodnaaDoor
