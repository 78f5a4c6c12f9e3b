/- Configurations in order: contracts of both sides. Printed by wip/tools/gen_ord.py. -/
import Derived.Test.YtbbenppmfmphfaaDoorOrdS
import Derived.Test.YtbbenppmfmphfaaDoorCfgM
namespace Go.Proofs.YtbbenppmfmphfaaDoor
open Go.RowKit
set_option maxRecDepth 20000
set_option maxHeartbeats 1000000
set_option linter.unusedSimpArgs false
set_option linter.unusedVariables false

/-- What ordering leaves. -/
def OrdAns (n : ByteArray) (cs : List Cls) (fs : List Flt) (d : Int) (w : World) (e : Ending) (w' : World) : Prop :=
  ∃ A1 c1 k1 A2 c2 k2 L F, e = .returned (cfgV n (.slice A1 c1 k1) (.slice A2 c2 k2) d) ∧ OwnC w' w.heap.size (.slice A1 c1 k1) L ∧ OwnF w' w.heap.size (.slice A2 c2 k2) F ∧ L.Perm cs ∧ Asc (fun x : Cls => x.id) L ∧ F.Perm fs ∧ Asc (fun x : Flt => x.prio) F ∧ Ext w w'
theorem perm_snoc {α : Type} {L' L l : List α} {y : α} (h : L'.Perm (y :: L)) (h1 : L.Perm l) : L'.Perm (l ++ [y]) :=
  h.trans ((List.Perm.cons y h1).trans (List.perm_append_singleton y l).symm)
theorem spec_cfOrder_any (n : ByteArray) (cv fv : Value) (d : Int) (cs : List Cls) (fs : List Flt) (w : World) (hc : RdC w cv cs) (hf : RdF w fv fs) (hcl : cs.length ≤ 1048576) (hfl : fs.length ≤ 1048576) :
    Calls Tryd.prog 36 #[cfgV n cv fv d] w (OrdAns n cs fs d w) := by
  obtain ⟨CA, cc, rfl, hcc, hrc⟩ := hc
  obtain ⟨FA, fc, rfl, hfc, hrf⟩ := hf
  have HRC := Lib.hid hrc
  have HRF := Lib.hid hrf
  clear hrc hrf
  have E0 : Ext w ((w.alloc (.cells #[.string n, .slice CA cs.length cc, .slice FA fs.length fc, .int .i64 d] 32)).alloc (.cells #[.string ⟨#[]⟩, .slice none 0 0, .slice none 0 0, .int .i64 0] 32)) := by (repeat (first | (with_reducible exact Ext.refl _) | (with_reducible assumption) | (with_reducible apply Ext.alloc) | (with_reducible apply Ext.drew) | (with_reducible apply Ext.drewN) | ((with_reducible refine Ext.setCell ?_ ?_ _); rotate_left; (focus (first | (simp; done) | (simp; omega) | omega))) | (with_reducible refine Ext.trans ?_ (by assumption))))
  have BX := Lib.hid ((Box.new w n (.slice CA cs.length cc) (.slice FA fs.length fc) d 32).ext ((Ext.refl _).alloc (.cells #[.string ⟨#[]⟩, .slice none 0 0, .slice none 0 0, .int .i64 0] 32)))
  have BR := Lib.hid (show Blk ((w.alloc (.cells #[.string n, .slice CA cs.length cc, .slice FA fs.length fc, .int .i64 d] 32)).alloc (.cells #[.string ⟨#[]⟩, .slice none 0 0, .slice none 0 0, .int .i64 0] 32)) (w.heap.size + 1) 32 #[.string ⟨#[]⟩, .slice none 0 0, .slice none 0 0, .int .i64 0] by
    have := Blk.new (w.alloc (.cells #[.string n, .slice CA cs.length cc, .slice FA fs.length fc, .int .i64 d] 32)) 32 #[.string ⟨#[]⟩, .slice none 0 0, .slice none 0 0, .int .i64 0]
    simpa using this)
  have X1 : Ext ((w.alloc (.cells #[.string n, .slice CA cs.length cc, .slice FA fs.length fc, .int .i64 d] 32)).alloc (.cells #[.string ⟨#[]⟩, .slice none 0 0, .slice none 0 0, .int .i64 0] 32)) (((w.alloc (.cells #[.string n, .slice CA cs.length cc, .slice FA fs.length fc, .int .i64 d] 32)).alloc (.cells #[.string ⟨#[]⟩, .slice none 0 0, .slice none 0 0, .int .i64 0] 32)).alloc (.cells #[.string n, .slice none 0 0, .slice none 0 0, .int .i64 d] 32)) := by (repeat (first | (with_reducible exact Ext.refl _) | (with_reducible assumption) | (with_reducible apply Ext.alloc) | (with_reducible apply Ext.drew) | (with_reducible apply Ext.drewN) | ((with_reducible refine Ext.setCell ?_ ?_ _); rotate_left; (focus (first | (simp; done) | (simp; omega) | omega))) | (with_reducible refine Ext.trans ?_ (by assumption))))
  have BN := Lib.hid (show Blk (((w.alloc (.cells #[.string n, .slice CA cs.length cc, .slice FA fs.length fc, .int .i64 d] 32)).alloc (.cells #[.string ⟨#[]⟩, .slice none 0 0, .slice none 0 0, .int .i64 0] 32)).alloc (.cells #[.string n, .slice none 0 0, .slice none 0 0, .int .i64 d] 32)) (w.heap.size + 2) 32 #[.string n, .slice none 0 0, .slice none 0 0, .int .i64 d] by
    have := Blk.new ((w.alloc (.cells #[.string n, .slice CA cs.length cc, .slice FA fs.length fc, .int .i64 d] 32)).alloc (.cells #[.string ⟨#[]⟩, .slice none 0 0, .slice none 0 0, .int .i64 0] 32)) 32 #[.string n, .slice none 0 0, .slice none 0 0, .int .i64 d]
    simpa using this)
  obtain ⟨q0, q1, q2, q3, q4⟩ := BX.out.ext X1
  go_enter Tryd.func36, Tryd.ntmps36
  go_wp2_with fail
  clear q0 q1 q2 q3 q4
  go_loopw [16] (fun t wr => ∃ k : Nat, t = .int .i64 (k : Int) ∧ k ≤ cs.length ∧ (∃ A1 c1 k1 L, Hid (OwnC wr (w.heap.size + 3) (.slice A1 c1 k1) L) ∧ Hid (L.Perm (cs.take k)) ∧ Hid (Asc (fun x : Cls => x.id) L) ∧ Hid (Blk wr (w.heap.size + 2) 32 #[.string n, .slice A1 c1 k1, .slice none 0 0, .int .i64 d])) ∧ Ext ((w.alloc (.cells #[.string n, .slice CA cs.length cc, .slice FA fs.length fc, .int .i64 d] 32)).alloc (.cells #[.string ⟨#[]⟩, .slice none 0 0, .slice none 0 0, .int .i64 0] 32)) wr) (fun t _ => cs.length - (intOf t).toNat)
  case atStart => exact ⟨0, rfl, Nat.zero_le _, ⟨none, 0, 0, [], World.ownsRow_nil _ _ _ _, List.Perm.refl _, SrtOn.small _ (by simp), BN.out⟩, X1⟩
  clear BN X1
  case round =>
    obtain ⟨k, rfl, hk, ⟨A1, c1, k1, L, HO, HP, HS, HB⟩, hx⟩ := hrel
    obtain ⟨w1, rfl⟩ : ∃ x : World, x = wr := ⟨_, rfl⟩
    have hLl : Hid (L.length = (cs.take k).length) := HP.out.length_eq
    have hsx := Ext.size hx
    simp at hsx
    obtain ⟨⟨p0, p1, p2, p3⟩, ⟨g0, g1, g2, g3⟩, hp⟩ := C4.blk HB.out
    by_cases hlt : k < cs.length
    · have hltz : (k : Int) < (cs.length : Int) := by omega
      obtain ⟨b, o, rfl, hbk, hcell⟩ := HRC.out k cs[k] (List.getElem?_eq_getElem hlt)
      have htk := Lib.hid (List.take_succ_eq_append_getElem hlt)
      generalize cs[k] = x at hcell htk
      have E := E0.trans hx
      have c0 : w1.cell? ⟨b, o + k * 8, none⟩ = some (.int .i64 x.id) := by rw [Ext.cell E hbk]; exact hcell 0 _ rfl
      have c1 : w1.cell? ⟨b, o + k * 8 + 1, none⟩ = some (.int .i64 x.parent) := by rw [Ext.cell E hbk]; exact hcell 1 _ rfl
      have c2 : w1.cell? ⟨b, o + k * 8 + 2, none⟩ = some (.int .i64 x.rate) := by rw [Ext.cell E hbk]; exact hcell 2 _ rfl
      have c3 : w1.cell? ⟨b, o + k * 8 + 3, none⟩ = some (.int .i64 x.ceil) := by rw [Ext.cell E hbk]; exact hcell 3 _ rfl
      have c4 : w1.cell? ⟨b, o + k * 8 + 4, none⟩ = some (.int .i64 x.burst) := by rw [Ext.cell E hbk]; exact hcell 4 _ rfl
      have c5 : w1.cell? ⟨b, o + k * 8 + 5, none⟩ = some (.int .i64 x.cburst) := by rw [Ext.cell E hbk]; exact hcell 5 _ rfl
      have c6 : w1.cell? ⟨b, o + k * 8 + 6, none⟩ = some (.int .i64 x.prio) := by rw [Ext.cell E hbk]; exact hcell 6 _ rfl
      have c7 : w1.cell? ⟨b, o + k * 8 + 7, none⟩ = some (.int .i64 x.limit) := by rw [Ext.cell E hbk]; exact hcell 7 _ rfl
      clear hcell
      go_wp2_with fail
      refine (putC_any L _ x _ (Own.src (HO.out.ext ((Ext.refl _).alloc _)) Cls.len) (by rw [hLl.out, List.length_take]; omega)).mono ?_
      rintro e w2 ⟨A3, n3, c3, L', rfl, O3, p3', s3, F3⟩
      have HO3 := Lib.hid (Own.mono (base' := w.heap.size + 3) O3 (by simp; omega))
      have HP3 := Lib.hid (perm_snoc p3' HP.out)
      have HS3 := Lib.hid (s3 HS.out)
      clear O3 p3' s3 p0 p1 p2 p3 g0 g1 g2 g3 hp
      have X2 : Ext w1 w2 := Ext.trans ((Ext.refl w1).alloc _) F3
      have HB3 := Lib.hid (HB.out.ext X2)
      have hs2 := Ext.size X2
      obtain ⟨⟨p0, p1, p2, p3⟩, ⟨g0, g1, g2, g3⟩, hp⟩ := C4.blk HB3.out
      go_wp2_with fail
      go_roundw
      case rel => exact ⟨k + 1, by go_num, by omega, ⟨A3, n3, c3, L', HO3.out.setCell (by omega) _ _, by rw [htk.out]; exact HP3.out, HS3.out, Lib.hid (by have := HB3.out.set_ 1 (.slice A3 n3 c3); simpa using this)⟩, by have hx2 := hx.trans X2; (repeat (first | (with_reducible exact Ext.refl _) | (with_reducible assumption) | (with_reducible apply Ext.alloc) | (with_reducible apply Ext.drew) | (with_reducible apply Ext.drewN) | ((with_reducible refine Ext.setCell ?_ ?_ _); rotate_left; (focus (first | (simp; done) | (simp; omega) | omega))) | (with_reducible refine Ext.trans ?_ (by assumption))))⟩
      case measure => (simp [intOf]; try omega)
    · obtain rfl : k = cs.length := by omega
      have hltz : ¬ (cs.length : Int) < (cs.length : Int) := by omega
      have HP1 := Lib.hid (show L.Perm cs by have := HP.out; rwa [List.take_length] at this)
      obtain ⟨q0, q1, q2, q3, q4⟩ := BX.out.ext hx
      go_wp2_with fail
      clear p0 p1 p2 p3 g0 g1 g2 g3 hp q0 q1 q2 q3 q4 HP hLl
      go_loopw [29] (fun t wr => ∃ k : Nat, t = .int .i64 (k : Int) ∧ k ≤ fs.length ∧ Hid (OwnC wr (w.heap.size + 3) (.slice A1 c1 k1) L) ∧ (∃ A2 c2 k2 F, Hid (OwnF wr (w.heap.size + 3) (.slice A2 c2 k2) F) ∧ Hid (F.Perm (fs.take k)) ∧ Hid (Asc (fun x : Flt => x.prio) F) ∧ Hid (Blk wr (w.heap.size + 2) 32 #[.string n, .slice A1 c1 k1, .slice A2 c2 k2, .int .i64 d])) ∧ Ext ((w.alloc (.cells #[.string n, .slice CA cs.length cc, .slice FA fs.length fc, .int .i64 d] 32)).alloc (.cells #[.string ⟨#[]⟩, .slice none 0 0, .slice none 0 0, .int .i64 0] 32)) wr) (fun t _ => fs.length - (intOf t).toNat)
      case atStart => exact ⟨0, rfl, Nat.zero_le _, HO.out, ⟨none, 0, 0, [], World.ownsRow_nil _ _ _ _, List.Perm.refl _, SrtOn.small _ (by simp), HB.out⟩, hx⟩
      clear HO HB hx hsx
      case round =>
        obtain ⟨k, rfl, hk, HO, ⟨A2, c2, k2, F, HF, HP, HG, HB⟩, hx⟩ := hrel
        obtain ⟨w1, rfl⟩ : ∃ x : World, x = wr := ⟨_, rfl⟩
        have hLl : Hid (F.length = (fs.take k).length) := HP.out.length_eq
        have hsx := Ext.size hx
        simp at hsx
        obtain ⟨⟨p0, p1, p2, p3⟩, ⟨g0, g1, g2, g3⟩, hp⟩ := C4.blk HB.out
        by_cases hlt : k < fs.length
        · have hltz : (k : Int) < (fs.length : Int) := by omega
          obtain ⟨b, o, rfl, hbk, hcell⟩ := HRF.out k fs[k] (List.getElem?_eq_getElem hlt)
          have htk := Lib.hid (List.take_succ_eq_append_getElem hlt)
          generalize fs[k] = x at hcell htk
          have E := E0.trans hx
          have c0 : w1.cell? ⟨b, o + k * 5, none⟩ = some (.int .i64 x.prio) := by rw [Ext.cell E hbk]; exact hcell 0 _ rfl
          have c1 : w1.cell? ⟨b, o + k * 5 + 1, none⟩ = some (.int .i64 x.field) := by rw [Ext.cell E hbk]; exact hcell 1 _ rfl
          have c2 : w1.cell? ⟨b, o + k * 5 + 2, none⟩ = some (.int .i64 x.mask) := by rw [Ext.cell E hbk]; exact hcell 2 _ rfl
          have c3 : w1.cell? ⟨b, o + k * 5 + 3, none⟩ = some (.int .i64 x.value) := by rw [Ext.cell E hbk]; exact hcell 3 _ rfl
          have c4 : w1.cell? ⟨b, o + k * 5 + 4, none⟩ = some (.int .i64 x.target) := by rw [Ext.cell E hbk]; exact hcell 4 _ rfl
          clear hcell
          go_wp2_with fail
          refine (putF_any F _ x _ (Own.src (HF.out.ext ((Ext.refl _).alloc _)) Flt.len) (by rw [hLl.out, List.length_take]; omega)).mono ?_
          rintro e w2 ⟨A3, n3, c3, L', rfl, O3, p3', s3, F3⟩
          have HO3 := Lib.hid (Own.mono (base' := w.heap.size + 3) O3 (by simp; omega))
          have HP3 := Lib.hid (perm_snoc p3' HP.out)
          have HS3 := Lib.hid (s3 HG.out)
          clear O3 p3' s3 p0 p1 p2 p3 g0 g1 g2 g3 hp
          have X2 : Ext w1 w2 := Ext.trans ((Ext.refl w1).alloc _) F3
          have HB3 := Lib.hid (HB.out.ext X2)
          have hs2 := Ext.size X2
          obtain ⟨⟨p0, p1, p2, p3⟩, ⟨g0, g1, g2, g3⟩, hp⟩ := C4.blk HB3.out
          go_wp2_with fail
          go_roundw
          case rel => exact ⟨k + 1, by go_num, by omega, (HO.out.ext X2).setCell (by omega) _ _, ⟨A3, n3, c3, L', HO3.out.setCell (by omega) _ _, by rw [htk.out]; exact HP3.out, HS3.out, Lib.hid (by have := HB3.out.set_ 2 (.slice A3 n3 c3); simpa using this)⟩, by have hx2 := hx.trans X2; (repeat (first | (with_reducible exact Ext.refl _) | (with_reducible assumption) | (with_reducible apply Ext.alloc) | (with_reducible apply Ext.drew) | (with_reducible apply Ext.drewN) | ((with_reducible refine Ext.setCell ?_ ?_ _); rotate_left; (focus (first | (simp; done) | (simp; omega) | omega))) | (with_reducible refine Ext.trans ?_ (by assumption))))⟩
          case measure => (simp [intOf]; try omega)
        · obtain rfl : k = fs.length := by omega
          have hltz : ¬ (fs.length : Int) < (fs.length : Int) := by omega
          have HP2 := Lib.hid (show F.Perm fs by have := HP.out; rwa [List.take_length] at this)
          obtain ⟨⟨r0, r1, r2, r3⟩, ⟨f0, f1, f2, f3⟩, hfz⟩ := C4.blk (BR.out.ext hx)
          have E := E0.trans hx
          go_wp2_with fail
          refine bodyPost_ret (v := cfgV n (.slice A1 c1 k1) (.slice A2 c2 k2) d) (by simp [results, Tryd.results36, go_sem, *]) rfl ⟨A1, c1, k1, A2, c2, k2, L, F, rfl, ?_, ?_, HP1.out, HS.out, HP2.out, HG.out, ?_⟩
          · refine Own.mono (base := w.heap.size + 3) ?_ (by omega)
            repeat (with_reducible refine Own.setCell ?_ (by omega) _ _)
            exact HO.out
          · refine Own.mono (base := w.heap.size + 3) ?_ (by omega)
            repeat (with_reducible refine Own.setCell ?_ (by omega) _ _)
            exact HF.out
          · (repeat (first | (with_reducible exact Ext.refl _) | (with_reducible assumption) | (with_reducible apply Ext.alloc) | (with_reducible apply Ext.drew) | (with_reducible apply Ext.drewN) | ((with_reducible refine Ext.setCell ?_ ?_ _); rotate_left; (focus (first | (simp; done) | (simp; omega) | omega))) | (with_reducible refine Ext.trans ?_ (by assumption))))
end Go.Proofs.YtbbenppmfmphfaaDoor
