/- Contracts of the law's own functions on Filter and slices of them: copied, equal, marked, held. -/
import Derived.Test.YtfnnolgmhcfaiaaDoorProg
import Derived.Test.YtfnnolgmhcfaiaaDoorMem
namespace Go.Proofs.YtfnnolgmhcfaiaaDoor
open Go.RowKit
set_option maxRecDepth 20000
set_option maxHeartbeats 1000000
set_option linter.unusedSimpArgs false
set_option linter.unusedVariables false

theorem info_Filter : (Tryd.prog.info? 62).map (fun i => (i.zero, i.size, i.bytes)) = some (some (.agg #[.int .i64 0, .int .i64 0, .int .i64 0, .int .i64 0, .int .i64 0]), 5, 40) := by kernel_rfl

theorem laws_toFilter_any (x : Flt) (w : World) :
    Calls Tryd.prog 53 #[fltW x] w fun e w' => e = .returned (fltW x) ∧ Ext w w' := by
  go_enter Tryd.func53, Tryd.ntmps53
  go_wp2
  refine bodyPost_ret (v := fltW x) (by simp [results, Tryd.results53, go_sem]) rfl ⟨rfl, ?_⟩
  (repeat (first | (with_reducible exact Ext.refl _) | (with_reducible assumption) | (with_reducible apply Ext.alloc) | (with_reducible apply Ext.drew) | (with_reducible apply Ext.drewN) | ((with_reducible refine Ext.setCell ?_ ?_ _); rotate_left; (focus (first | (simp; done) | (simp; omega) | omega))) | (with_reducible refine Ext.trans ?_ (by assumption))))

theorem laws_eqFilter_any (x : Flt) (w : World) :
    Calls Tryd.prog 69 #[fltW x, fltW x] w fun e w' => e = .returned (.bool true) ∧ Ext w w' := by
  go_enter Tryd.func69, Tryd.ntmps69
  go_wp2
  go_ret
  refine ⟨rfl, ?_⟩
  (repeat (first | (with_reducible exact Ext.refl _) | (with_reducible assumption) | (with_reducible apply Ext.alloc) | (with_reducible apply Ext.drew) | (with_reducible apply Ext.drewN) | ((with_reducible refine Ext.setCell ?_ ?_ _); rotate_left; (focus (first | (simp; done) | (simp; omega) | omega))) | (with_reducible refine Ext.trans ?_ (by assumption))))

theorem laws_toFilterS_any (v : Value) (l : List Flt) (w : World) (h : Rd w 5 Flt.cells v l) (hl : l.length ≤ 1048576) :
    Calls Tryd.prog 28 #[v] w fun e w' => ∃ u, e = .returned u ∧ Own w' w.heap.size 62 5 Flt.cells u l ∧ Ext w w' := by
  obtain ⟨A, c, rfl, hc, hrd⟩ := h
  have HR := Lib.hid hrd
  clear hrd
  obtain ⟨cs0, hcs0, hmk⟩ : ∃ cs0 : Array Value, cs0.size = l.length * 5 ∧ ∀ W : World, (Instr.makeSlice 29 (.int .i64 (l.length : Int)) (.int .i64 (l.length : Int))).run Tryd.prog W = .ok (.slice (some ⟨W.heap.size, 0, none⟩) l.length l.length) (W.alloc (.cells cs0 62)) := by
    obtain ⟨i0, ii0, ii1, ii2, ii3⟩ := info_parts info_Filter
    exact ⟨_, by rw [size_madeCells, ii2], fun W => run_make_rowN (P := Tryd.prog) 29 62 i0 _ Tryd.underlying29 ii0 ii1 .i64 .i64 l.length (by rw [ii3]; omega) (by omega) W⟩
  have HC0 := Lib.hid hcs0
  clear hcs0
  go_enter Tryd.func28, Tryd.ntmps28
  go_wp2
  clear hmk
  go_loopw [4] (fun t wr => ∃ j : Nat, j ≤ l.length ∧ t = .int .i64 j ∧ (∃ cs : Array Value, Hid (Blk wr w.heap.size 62 cs ∧ cs.size = l.length * 5 ∧ cs.toList.take (j * 5) = (l.take j).flatMap Flt.cells)) ∧ Ext w wr) (fun t _ => l.length - (intOf t).toNat)
  case atStart => exact ⟨0, Nat.zero_le _, rfl, ⟨cs0, Blk.new _ _ _, HC0.out, by simp⟩, (Ext.refl _).alloc _⟩
  case round =>
    obtain ⟨j, hj, rfl, ⟨cs, hcs⟩, hx⟩ := hrel
    by_cases hlt : j < l.length
    · obtain ⟨b, o, rfl, hb, hcell⟩ := HR.out j l[j] (List.getElem?_eq_getElem hlt)
      obtain ⟨x, hxe⟩ : ∃ x, x = l[j] := ⟨_, rfl⟩
      rw [← hxe] at hcell
      have HX := Lib.hid hxe
      clear hxe
      have c0 : wr.cell? ⟨b, o + j * 5, none⟩ = some (.int .i64 (x.prio)) := by rw [Ext.cell hx hb]; exact hcell 0 _ rfl
      have c1 : wr.cell? ⟨b, o + j * 5 + 1, none⟩ = some (.int .i64 (x.field)) := by rw [Ext.cell hx hb]; exact hcell 1 _ rfl
      have c2 : wr.cell? ⟨b, o + j * 5 + 2, none⟩ = some (.int .i64 (x.mask)) := by rw [Ext.cell hx hb]; exact hcell 2 _ rfl
      have c3 : wr.cell? ⟨b, o + j * 5 + 3, none⟩ = some (.int .i64 (x.value)) := by rw [Ext.cell hx hb]; exact hcell 3 _ rfl
      have c4 : wr.cell? ⟨b, o + j * 5 + 4, none⟩ = some (.int .i64 (x.target)) := by rw [Ext.cell hx hb]; exact hcell 4 _ rfl
      clear hcell
      go_wp2_with fail
      refine (laws_toFilter_any x _).mono ?_
      rintro e w1 ⟨rfl, hb1⟩
      have hsz : (j + 1) * 5 ≤ cs.size := by rw [hcs.out.2.1]; exact Nat.mul_le_mul_right _ hlt
      have B1 := Lib.hid (hcs.out.1.ext hb1)
      obtain ⟨u0, d0⟩ := B1.out.cell (j * 5) (by omega)
      have f0 := B1.out.frozen (j * 5)
      obtain ⟨u1, d1⟩ := B1.out.cell (j * 5 + 1) (by omega)
      have f1 := B1.out.frozen (j * 5 + 1)
      obtain ⟨u2, d2⟩ := B1.out.cell (j * 5 + 2) (by omega)
      have f2 := B1.out.frozen (j * 5 + 2)
      obtain ⟨u3, d3⟩ := B1.out.cell (j * 5 + 3) (by omega)
      have f3 := B1.out.frozen (j * 5 + 3)
      obtain ⟨u4, d4⟩ := B1.out.cell (j * 5 + 4) (by omega)
      have f4 := B1.out.frozen (j * 5 + 4)
      clear c0 c1 c2 c3 c4
      go_wp2
      go_roundw
      case rel =>
        refine ⟨j + 1, by omega, by go_num, ⟨_, ((((B1.out.set_ (j * 5) _).set_ (j * 5 + 1) _).set_ (j * 5 + 2) _).set_ (j * 5 + 3) _).set_ (j * 5 + 4) _, by simpa using hcs.out.2.1, ?_⟩, ?_⟩
        · have hl : cs.toList.length = cs.size := by simp
          have t0 := hcs.out.2.2
          have t1 := take_set_next (m := j * 5) (by simp; omega) t0 (.int .i64 (x.prio))
          have t2 := take_set_next (m := j * 5 + 1) (by simp; omega) t1 (.int .i64 (x.field))
          have t3 := take_set_next (m := j * 5 + 2) (by simp; omega) t2 (.int .i64 (x.mask))
          have t4 := take_set_next (m := j * 5 + 3) (by simp; omega) t3 (.int .i64 (x.value))
          have t5 := take_set_next (m := j * 5 + 4) (by simp; omega) t4 (.int .i64 (x.target))
          rw [List.take_succ_eq_append_getElem hlt, ← HX.out, List.flatMap_append, show (j + 1) * 5 = j * 5 + 4 + 1 from by omega]
          simpa [Flt.cells] using t5
        · (repeat (first | (with_reducible exact Ext.refl _) | (with_reducible assumption) | (with_reducible apply Ext.alloc) | (with_reducible apply Ext.drew) | (with_reducible apply Ext.drewN) | ((with_reducible refine Ext.setCell ?_ ?_ _); rotate_left; (focus (first | (simp; done) | (simp; omega) | omega))) | (with_reducible refine Ext.trans ?_ (by assumption))))
      case measure => simp [intOf]; omega
    · obtain rfl : j = l.length := by omega
      go_wp2
      go_ret
      refine ⟨_, rfl, Own.of_blk hcs.out.1 (Nat.le_refl _) (Nat.le_refl _) (by unfold maxLen; omega) hcs.out.2.1 (by have := hcs.out.2.2; rwa [List.take_length] at this) Flt.len, hx⟩

theorem laws_eqFilterS_any (u v : Value) (l : List Flt) (w : World) (hu : Rd w 5 Flt.cells u l) (hv : Rd w 5 Flt.cells v l) (hl : l.length ≤ 2000000) :
    Calls Tryd.prog 31 #[u, v] w fun e w' => e = .returned (.bool true) ∧ Ext w w' := by
  obtain ⟨A, c, rfl, hc, ha⟩ := hu
  obtain ⟨B, d, rfl, hd, hb⟩ := hv
  have HA := Lib.hid ha
  have HB := Lib.hid hb
  clear ha hb
  have hq : ((l.length : Int) != (l.length : Int)) = false := by simp
  go_enter Tryd.func31, Tryd.ntmps31
  go_wp2
  go_loopw [5] (fun t wr => ∃ k : Nat, k ≤ l.length ∧ t = .int .i64 k ∧ Ext w wr) (fun t _ => l.length - (intOf t).toNat)
  case atStart => exact ⟨0, Nat.zero_le _, rfl, Ext.refl _⟩
  case round =>
    obtain ⟨k, hk, rfl, hx⟩ := hrel
    by_cases hlt : k < l.length
    · obtain ⟨b, o, rfl, hb, hcell⟩ := HA.out k l[k] (List.getElem?_eq_getElem hlt)
      obtain ⟨b', o', rfl, hb', hcell'⟩ := HB.out k l[k] (List.getElem?_eq_getElem hlt)
      generalize l[k] = x at hcell hcell'
      have c0 : wr.cell? ⟨b, o + k * 5, none⟩ = some (.int .i64 (x.prio)) := by rw [Ext.cell hx hb]; exact hcell 0 _ rfl
      have c1 : wr.cell? ⟨b, o + k * 5 + 1, none⟩ = some (.int .i64 (x.field)) := by rw [Ext.cell hx hb]; exact hcell 1 _ rfl
      have c2 : wr.cell? ⟨b, o + k * 5 + 2, none⟩ = some (.int .i64 (x.mask)) := by rw [Ext.cell hx hb]; exact hcell 2 _ rfl
      have c3 : wr.cell? ⟨b, o + k * 5 + 3, none⟩ = some (.int .i64 (x.value)) := by rw [Ext.cell hx hb]; exact hcell 3 _ rfl
      have c4 : wr.cell? ⟨b, o + k * 5 + 4, none⟩ = some (.int .i64 (x.target)) := by rw [Ext.cell hx hb]; exact hcell 4 _ rfl
      have d0 : wr.cell? ⟨b', o' + k * 5, none⟩ = some (.int .i64 (x.prio)) := by rw [Ext.cell hx hb']; exact hcell' 0 _ rfl
      have d1 : wr.cell? ⟨b', o' + k * 5 + 1, none⟩ = some (.int .i64 (x.field)) := by rw [Ext.cell hx hb']; exact hcell' 1 _ rfl
      have d2 : wr.cell? ⟨b', o' + k * 5 + 2, none⟩ = some (.int .i64 (x.mask)) := by rw [Ext.cell hx hb']; exact hcell' 2 _ rfl
      have d3 : wr.cell? ⟨b', o' + k * 5 + 3, none⟩ = some (.int .i64 (x.value)) := by rw [Ext.cell hx hb']; exact hcell' 3 _ rfl
      have d4 : wr.cell? ⟨b', o' + k * 5 + 4, none⟩ = some (.int .i64 (x.target)) := by rw [Ext.cell hx hb']; exact hcell' 4 _ rfl
      have z0 : b < wr.heap.size := Ext.lts hx _ hb
      have z1 : b' < wr.heap.size := Ext.lts hx _ hb'
      clear hcell hcell'
      (go_wp2_with fail; refine wp_region_ext (by kernel_rfl) (by kernel_rfl) ?_; (repeat (first | go_big_quiet_step ((first | (go_at_call 69; exact calls_later (laws_eqFilter_any _ _ )))) | quiet_step ((first | (go_at_call 69; exact calls_later (laws_eqFilter_any _ _ )))))); refine wpQuiet_nil ?_; intro wq hbq; (try (replace hbq := Ext.trans (by assumption) hbq)); have hcq := Ext.cells hbq; have hzq := Ext.frozens hbq; have hsq := Ext.lts hbq)
      go_wp2
      go_roundw
      case rel => exact ⟨k + 1, by omega, by go_num, by assumption⟩
      case measure => simp [intOf]; omega
    · go_wp2
      go_ret
      exact ⟨rfl, hx⟩

def mkFilter (k : Int) : Flt := ⟨k, k + 1, k + 1 + 1, k + 1 + 1 + 1, k + 1 + 1 + 1 + 1⟩
end Go.Proofs.YtfnnolgmhcfaiaaDoor
