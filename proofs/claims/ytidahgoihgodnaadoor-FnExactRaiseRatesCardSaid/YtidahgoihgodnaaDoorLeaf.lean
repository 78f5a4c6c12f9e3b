/- Children and leaves of a configuration. -/
import Derived.Test.YtidahgoihgodnaaDoorBad
namespace Go.Proofs.YtidahgoihgodnaaDoor
open Go.RowKit
set_option maxRecDepth 20000
set_option maxHeartbeats 1000000
set_option linter.unusedSimpArgs false
set_option linter.unusedVariables false

def idAt (cs : List Cls) (i : Nat) : Int := match cs[i]? with
  | some x => x.id
  | none => 0
theorem idAt_is (cs : List Cls) (i : Nat) (h : i < cs.length) : idAt cs i = cs[i].id := by simp [idAt, h]
def kidP (cs : List Cls) (i k : Nat) : Bool := clsAt cs k (fun x => x.parent == idAt cs i)
/-- The indices of the children of a class. -/
def kidL (cs : List Cls) (i : Nat) : List Int := pick (kidP cs i) cs.length
def leafB (cs : List Cls) (i : Nat) : Bool := (((kidL cs i).length : Nat) : Int) == 0
theorem leaf_idx (cs : List Cls) (i : Nat) : leafB cs i = !decide (0 ≤ idxC cs (fun x => x.parent == idAt cs i)) := by
  have hb := fndN_bd (fun k => clsAt cs k fun x => x.parent == idAt cs i) cs.length 0
  have hs := fndN_spec (fun k => clsAt cs k fun x => x.parent == idAt cs i) cs.length 0
  have hn := pick_nil (kidP cs i) cs.length
  unfold leafB idxC kidL
  rcases hb with h | ⟨h1, h2⟩
  · have h3 : pick (kidP cs i) cs.length = [] := hn.2 (fun j hj => hs.1 h j (by omega) (by omega))
    rw [h3, h]
    rfl
  · obtain ⟨u, hu⟩ := Int.eq_ofNat_of_zero_le (show 0 ≤ fndN (fun k => clsAt cs k fun x => x.parent == idAt cs i) 0 cs.length by omega)
    have h3 := (hs.2 u hu).1
    have h4 : pick (kidP cs i) cs.length ≠ [] := fun e => by
      have := hn.1 e u (by omega)
      rw [show kidP cs i u = true from h3] at this
      cases this
    have h5 : 0 < (pick (kidP cs i) cs.length).length := List.length_pos_iff.2 h4
    rw [hu]
    simp
    omega
theorem spec_cfKids_any (n : ByteArray) (cv fv : Value) (d : Int) (i : Nat) (cs : List Cls) (w : World) (hc : RdC w cv cs) (hi : i < cs.length) (hcl : cs.length ≤ 1048576) :
    Calls Tryd.prog 63 #[cfgV n cv fv d, .int .i64 (i : Int)] w fun e w' => ∃ u, e = .returned u ∧ OwnI w' w.heap.size 3 u (kidL cs i) ∧ Ext w w' := by
  obtain ⟨CA, cc, rfl, hcc, hrc⟩ := hc
  have HR := Lib.hid hrc
  obtain ⟨b, o, rfl, hb, hci⟩ := hrc i cs[i] (List.getElem?_eq_getElem hi)
  have hid0 : w.cell? ⟨b, o + i * 8, none⟩ = some (.int .i64 (idAt cs i)) := by rw [idAt_is cs i hi]; exact hci 0 _ rfl
  have HID := Lib.hid hid0
  clear hrc hci hid0
  generalize hgi : idAt cs i = gi at HID
  have HGI := Lib.hid hgi
  clear hgi
  have D0 := Ext.refl (w.alloc (.cells #[.string n, .slice (some ⟨b, o, none⟩) cs.length cc, fv, .int .i64 d] 30))
  have HST := Lib.hid (show OwnI (w.alloc (.cells #[.string n, .slice (some ⟨b, o, none⟩) cs.length cc, fv, .int .i64 d] 30)) (w.heap.size + 1) 3 (.slice none 0 0) [] from World.ownsRow_nil _ _ _ _)
  go_enter Tryd.func63, Tryd.ntmps63
  go_wp2
  go_loopw [11, 5] (fun t s wr => ∃ k : Nat, k ≤ cs.length ∧ t = .int .i64 (k : Int) ∧ OwnI wr (w.heap.size + 1) 3 s (pick (kidP cs i) k) ∧ Ext (w.alloc (.cells #[.string n, .slice (some ⟨b, o, none⟩) cs.length cc, fv, .int .i64 d] 30)) wr) (fun t _ _ => cs.length - (intOf t).toNat)
  case atStart => exact ⟨0, Nat.zero_le _, rfl, HST.out, by assumption⟩
  case round =>
    obtain ⟨k, hk, rfl, hown, hx⟩ := hrel
    have HO := Lib.hid hown
    have hxw := Ext.trans ((Ext.refl w).alloc (.cells #[.string n, .slice (some ⟨b, o, none⟩) cs.length cc, fv, .int .i64 d] 30)) hx
    have BX := Lib.hid ((Box.new w n (.slice (some ⟨b, o, none⟩) cs.length cc) fv d 30).ext hx)
    clear hown
    by_cases hlt : k < cs.length
    · have hpk : pick (kidP cs i) (k + 1) = pick (kidP cs i) k ++ (if kidP cs i k then [(k : Int)] else []) := rfl
      have hbp : kidP cs i k = (cs[k].parent == gi) := by rw [← HGI.out]; exact clsAt_is cs k _ hlt
      have HLN := Lib.hid (show (pick (kidP cs i) k).length ≤ 10000000 by have := pick_len (kidP cs i) k; omega)
      obtain ⟨b', o', hA, hb', hcell⟩ := HR.out k cs[k] (List.getElem?_eq_getElem hlt)
      simp only [Option.some.injEq, Addr.mk.injEq, and_true] at hA
      obtain ⟨rfl, rfl⟩ := hA
      generalize cs[k] = x at hcell hbp
      have c0 : wr.cell? ⟨b, o + k * 8, none⟩ = some (.int .i64 x.id) := by rw [Ext.cell hxw hb]; exact hcell 0 _ rfl
      have c1 : wr.cell? ⟨b, o + k * 8 + 1, none⟩ = some (.int .i64 x.parent) := by rw [Ext.cell hxw hb]; exact hcell 1 _ rfl
      have c2 : wr.cell? ⟨b, o + k * 8 + 2, none⟩ = some (.int .i64 x.rate) := by rw [Ext.cell hxw hb]; exact hcell 2 _ rfl
      have c3 : wr.cell? ⟨b, o + k * 8 + 3, none⟩ = some (.int .i64 x.ceil) := by rw [Ext.cell hxw hb]; exact hcell 3 _ rfl
      have c4 : wr.cell? ⟨b, o + k * 8 + 4, none⟩ = some (.int .i64 x.burst) := by rw [Ext.cell hxw hb]; exact hcell 4 _ rfl
      have c5 : wr.cell? ⟨b, o + k * 8 + 5, none⟩ = some (.int .i64 x.cburst) := by rw [Ext.cell hxw hb]; exact hcell 5 _ rfl
      have c6 : wr.cell? ⟨b, o + k * 8 + 6, none⟩ = some (.int .i64 x.prio) := by rw [Ext.cell hxw hb]; exact hcell 6 _ rfl
      have c7 : wr.cell? ⟨b, o + k * 8 + 7, none⟩ = some (.int .i64 x.limit) := by rw [Ext.cell hxw hb]; exact hcell 7 _ rfl
      have ci : wr.cell? ⟨b, o + i * 8, none⟩ = some (.int .i64 gi) := by rw [Ext.cell hxw hb]; exact HID.out
      have z0 : b < wr.heap.size := Ext.lts hxw _ hb
      have z1 : b < wr.heap.size + 1 := by omega
      have HPK := Lib.hid hpk
      have HBP := Lib.hid hbp
      clear hcell hpk hbp hb'
      obtain ⟨q0, q1, q2, q3, q4⟩ := BX.out
      have q5 : w.heap.size < wr.heap.size + 1 := by omega
      cases he : (x.parent == gi)
      · have HF := Lib.hid (show kidP cs i k = false by rw [HBP.out, he])
        have HE := Lib.hid he
        go_wp2_with fail
        (go_wp2_with fail; refine wp_region_ext (by kernel_rfl) (by kernel_rfl) ?_; (repeat (first | go_big_quiet_step (fail) | quiet_step (fail))); refine wpQuiet_nil ?_; intro wq hbq; have hcq := Ext.cells hbq; have hzq := Ext.frozens hbq; have hsq := Ext.lts hbq)
        go_wp2
        go_roundw
        case rel => exact ⟨k + 1, by omega, by go_num, by rw [HPK.out, HF.out]; simp only [Bool.false_eq_true, if_false, List.append_nil]; exact Own.ext HO.out (((Ext.refl _).alloc _).trans hbq), (hx.alloc _).trans hbq⟩
        case measure => simp [intOf]; omega
      · have HT := Lib.hid (show kidP cs i k = true by rw [HBP.out, he])
        have HE := Lib.hid he
        go_wp2_with fail
        (go_wp2_with fail; refine wp_region_ext (by kernel_rfl) (by kernel_rfl) ?_; (repeat (first | go_big_quiet_step (fail) | quiet_step (fail))); refine wpQuiet_nil ?_; intro wq hbq; have hcq := Ext.cells hbq; have hzq := Ext.frozens hbq; have hsq := Ext.lts hbq)
        clear c0 c1 c2 c3 c4 c5 c6 c7 q0 q1 q2 q3 q4 ci
        go_wp2_with (at_builtin; refine app_intB (by simp) (Own.ext HO.out (((Ext.refl _).alloc _).trans hbq)) HLN.out ((hx.alloc _).trans hbq) rfl rfl rfl rfl ?_; intro v2 w2 hown2 D2)
        have HO2 := Lib.hid hown2
        clear hown2
        go_wp2
        go_roundw
        case rel => exact ⟨k + 1, by omega, by go_num, by rw [HPK.out, HT.out]; exact HO2.out, D2⟩
        case measure => simp [intOf]; omega
    · obtain rfl : k = cs.length := by omega
      go_wp2
      go_ret
      exact ⟨_, rfl, Own.mono HO.out (by omega), hxw⟩
theorem impl_childrenOf_any (n : ByteArray) (cv fv : Value) (d : Int) (i : Nat) (cs : List Cls) (w : World) (hc : RdC w cv cs) (hi : i < cs.length) (hcl : cs.length ≤ 1048576) :
    Calls Tryd.prog 77 #[cfgV n cv fv d, .int .i64 (i : Int)] w fun e w' => ∃ u, e = .returned u ∧ OwnI w' w.heap.size 3 u (kidL cs i) ∧ Ext w w' := by
  obtain ⟨CA, cc, rfl, hcc, hrc⟩ := hc
  have HR := Lib.hid hrc
  obtain ⟨b, o, rfl, hb, hci⟩ := hrc i cs[i] (List.getElem?_eq_getElem hi)
  have hid0 : w.cell? ⟨b, o + i * 8, none⟩ = some (.int .i64 (idAt cs i)) := by rw [idAt_is cs i hi]; exact hci 0 _ rfl
  have HID := Lib.hid hid0
  clear hrc hci hid0
  generalize hgi : idAt cs i = gi at HID
  have HGI := Lib.hid hgi
  clear hgi
  have D0 := (Ext.refl (w.alloc (.cells #[.string n, .slice (some ⟨b, o, none⟩) cs.length cc, fv, .int .i64 d] 30))).alloc (.cells #[] 3)
  have HST := Lib.hid (show OwnI ((w.alloc (.cells #[.string n, .slice (some ⟨b, o, none⟩) cs.length cc, fv, .int .i64 d] 30)).alloc (.cells #[] 3)) (w.heap.size + 1) 3 (.slice (some ⟨w.heap.size + 1, 0, none⟩) 0 0) [] by
    have := World.ownsRow_lit (base := w.heap.size + 1) (e := 3) (size := 1) (w.alloc (.cells #[.string n, .slice (some ⟨b, o, none⟩) cs.length cc, fv, .int .i64 d] 30)) #[] 0 (by simp) (by unfold maxLen; omega) rfl
    unfold OwnI Own
    simpa using this)
  go_enter Tryd.func77, Tryd.ntmps77
  go_wp2
  go_loopw [12, 5] (fun t s wr => ∃ k : Nat, k ≤ cs.length ∧ t = .int .i64 (k : Int) ∧ OwnI wr (w.heap.size + 1) 3 s (pick (kidP cs i) k) ∧ Ext (w.alloc (.cells #[.string n, .slice (some ⟨b, o, none⟩) cs.length cc, fv, .int .i64 d] 30)) wr) (fun t _ _ => cs.length - (intOf t).toNat)
  case atStart => exact ⟨0, Nat.zero_le _, rfl, HST.out, by assumption⟩
  case round =>
    obtain ⟨k, hk, rfl, hown, hx⟩ := hrel
    have HO := Lib.hid hown
    have hxw := Ext.trans ((Ext.refl w).alloc (.cells #[.string n, .slice (some ⟨b, o, none⟩) cs.length cc, fv, .int .i64 d] 30)) hx
    have BX := Lib.hid ((Box.new w n (.slice (some ⟨b, o, none⟩) cs.length cc) fv d 30).ext hx)
    clear hown
    by_cases hlt : k < cs.length
    · have hpk : pick (kidP cs i) (k + 1) = pick (kidP cs i) k ++ (if kidP cs i k then [(k : Int)] else []) := rfl
      have hbp : kidP cs i k = (cs[k].parent == gi) := by rw [← HGI.out]; exact clsAt_is cs k _ hlt
      have HLN := Lib.hid (show (pick (kidP cs i) k).length ≤ 10000000 by have := pick_len (kidP cs i) k; omega)
      obtain ⟨b', o', hA, hb', hcell⟩ := HR.out k cs[k] (List.getElem?_eq_getElem hlt)
      simp only [Option.some.injEq, Addr.mk.injEq, and_true] at hA
      obtain ⟨rfl, rfl⟩ := hA
      generalize cs[k] = x at hcell hbp
      have c0 : wr.cell? ⟨b, o + k * 8, none⟩ = some (.int .i64 x.id) := by rw [Ext.cell hxw hb]; exact hcell 0 _ rfl
      have c1 : wr.cell? ⟨b, o + k * 8 + 1, none⟩ = some (.int .i64 x.parent) := by rw [Ext.cell hxw hb]; exact hcell 1 _ rfl
      have c2 : wr.cell? ⟨b, o + k * 8 + 2, none⟩ = some (.int .i64 x.rate) := by rw [Ext.cell hxw hb]; exact hcell 2 _ rfl
      have c3 : wr.cell? ⟨b, o + k * 8 + 3, none⟩ = some (.int .i64 x.ceil) := by rw [Ext.cell hxw hb]; exact hcell 3 _ rfl
      have c4 : wr.cell? ⟨b, o + k * 8 + 4, none⟩ = some (.int .i64 x.burst) := by rw [Ext.cell hxw hb]; exact hcell 4 _ rfl
      have c5 : wr.cell? ⟨b, o + k * 8 + 5, none⟩ = some (.int .i64 x.cburst) := by rw [Ext.cell hxw hb]; exact hcell 5 _ rfl
      have c6 : wr.cell? ⟨b, o + k * 8 + 6, none⟩ = some (.int .i64 x.prio) := by rw [Ext.cell hxw hb]; exact hcell 6 _ rfl
      have c7 : wr.cell? ⟨b, o + k * 8 + 7, none⟩ = some (.int .i64 x.limit) := by rw [Ext.cell hxw hb]; exact hcell 7 _ rfl
      have ci : wr.cell? ⟨b, o + i * 8, none⟩ = some (.int .i64 gi) := by rw [Ext.cell hxw hb]; exact HID.out
      have z0 : b < wr.heap.size := Ext.lts hxw _ hb
      have z1 : b < wr.heap.size + 1 := by omega
      have HPK := Lib.hid hpk
      have HBP := Lib.hid hbp
      clear hcell hpk hbp hb'
      obtain ⟨q0, q1, q2, q3, q4⟩ := BX.out
      have q5 : w.heap.size < wr.heap.size + 1 := by omega
      cases he : (x.parent == gi)
      · have HF := Lib.hid (show kidP cs i k = false by rw [HBP.out, he])
        have HE := Lib.hid he
        go_wp2_with fail
        (go_wp2_with fail; refine wp_region_ext (by kernel_rfl) (by kernel_rfl) ?_; (repeat (first | go_big_quiet_step (fail) | quiet_step (fail))); refine wpQuiet_nil ?_; intro wq hbq; have hcq := Ext.cells hbq; have hzq := Ext.frozens hbq; have hsq := Ext.lts hbq)
        go_wp2
        go_roundw
        case rel => exact ⟨k + 1, by omega, by go_num, by rw [HPK.out, HF.out]; simp only [Bool.false_eq_true, if_false, List.append_nil]; exact Own.ext HO.out (((Ext.refl _).alloc _).trans hbq), (hx.alloc _).trans hbq⟩
        case measure => simp [intOf]; omega
      · have HT := Lib.hid (show kidP cs i k = true by rw [HBP.out, he])
        have HE := Lib.hid he
        go_wp2_with fail
        (go_wp2_with fail; refine wp_region_ext (by kernel_rfl) (by kernel_rfl) ?_; (repeat (first | go_big_quiet_step (fail) | quiet_step (fail))); refine wpQuiet_nil ?_; intro wq hbq; have hcq := Ext.cells hbq; have hzq := Ext.frozens hbq; have hsq := Ext.lts hbq)
        clear c0 c1 c2 c3 c4 c5 c6 c7 q0 q1 q2 q3 q4 ci
        go_wp2_with (at_builtin; refine app_intB (by simp) (Own.ext HO.out (((Ext.refl _).alloc _).trans hbq)) HLN.out ((hx.alloc _).trans hbq) rfl rfl rfl rfl ?_; intro v2 w2 hown2 D2)
        have HO2 := Lib.hid hown2
        clear hown2
        go_wp2
        go_roundw
        case rel => exact ⟨k + 1, by omega, by go_num, by rw [HPK.out, HT.out]; exact HO2.out, D2⟩
        case measure => simp [intOf]; omega
    · obtain rfl : k = cs.length := by omega
      go_wp2
      go_ret
      exact ⟨_, rfl, Own.mono HO.out (by omega), hxw⟩
end Go.Proofs.YtidahgoihgodnaaDoor
