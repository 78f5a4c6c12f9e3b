/- Contracts of the law's own functions on Filter and slices of them: copied, equal, marked, held. -/
import Derived.Test.YtidahgoihgodnaaDoorProg
import Derived.Test.YtidahgoihgodnaaDoorMem
namespace Go.Proofs.YtidahgoihgodnaaDoor
open Go.RowKit
set_option maxRecDepth 20000
set_option maxHeartbeats 1000000
set_option linter.unusedSimpArgs false
set_option linter.unusedVariables false

theorem info_Filter : (Tryd.prog.info? 66).map (fun i => (i.zero, i.size, i.bytes)) = some (some (.agg #[.int .i64 0, .int .i64 0, .int .i64 0, .int .i64 0, .int .i64 0]), 5, 40) := by kernel_rfl

theorem laws_toFilter_any (x : Flt) (w : World) :
    Calls Tryd.prog 54 #[fltW x] w fun e w' => e = .returned (fltW x) ∧ Ext w w' := by
  go_enter Tryd.func54, Tryd.ntmps54
  go_wp2
  refine bodyPost_ret (v := fltW x) (by simp [results, Tryd.results54, go_sem]) rfl ⟨rfl, ?_⟩
  (repeat (first | (with_reducible exact Ext.refl _) | (with_reducible assumption) | (with_reducible apply Ext.alloc) | (with_reducible apply Ext.drew) | (with_reducible apply Ext.drewN) | ((with_reducible refine Ext.setCell ?_ ?_ _); rotate_left; (focus (first | (simp; done) | (simp; omega) | omega))) | (with_reducible refine Ext.trans ?_ (by assumption))))

theorem laws_eqFilter_any (x : Flt) (w : World) :
    Calls Tryd.prog 62 #[fltW x, fltW x] w fun e w' => e = .returned (.bool true) ∧ Ext w w' := by
  go_enter Tryd.func62, Tryd.ntmps62
  go_wp2
  go_ret
  refine ⟨rfl, ?_⟩
  (repeat (first | (with_reducible exact Ext.refl _) | (with_reducible assumption) | (with_reducible apply Ext.alloc) | (with_reducible apply Ext.drew) | (with_reducible apply Ext.drewN) | ((with_reducible refine Ext.setCell ?_ ?_ _); rotate_left; (focus (first | (simp; done) | (simp; omega) | omega))) | (with_reducible refine Ext.trans ?_ (by assumption))))

theorem laws_toFilterS_any (v : Value) (l : List Flt) (w : World) (h : Rd w 5 Flt.cells v l) (hl : l.length ≤ 1048576) :
    Calls Tryd.prog 25 #[v] w fun e w' => ∃ u, e = .returned u ∧ Own w' w.heap.size 66 5 Flt.cells u l ∧ Ext w w' := by
  obtain ⟨A, c, rfl, hc, hrd⟩ := h
  have HR := Lib.hid hrd
  clear hrd
  obtain ⟨cs0, hcs0, hmk⟩ : ∃ cs0 : Array Value, cs0.size = l.length * 5 ∧ ∀ W : World, (Instr.makeSlice 28 (.int .i64 (l.length : Int)) (.int .i64 (l.length : Int))).run Tryd.prog W = .ok (.slice (some ⟨W.heap.size, 0, none⟩) l.length l.length) (W.alloc (.cells cs0 66)) := by
    obtain ⟨i0, ii0, ii1, ii2, ii3⟩ := info_parts info_Filter
    exact ⟨_, by rw [size_madeCells, ii2], fun W => run_make_rowN (P := Tryd.prog) 28 66 i0 _ Tryd.underlying28 ii0 ii1 .i64 .i64 l.length (by rw [ii3]; omega) (by omega) W⟩
  have HC0 := Lib.hid hcs0
  clear hcs0
  go_enter Tryd.func25, Tryd.ntmps25
  go_wp2
  clear hmk
  go_loopw [4] (fun t wr => ∃ j : Nat, j ≤ l.length ∧ t = .int .i64 j ∧ (∃ cs : Array Value, Hid (Blk wr w.heap.size 66 cs ∧ cs.size = l.length * 5 ∧ cs.toList.take (j * 5) = (l.take j).flatMap Flt.cells)) ∧ Ext w wr) (fun t _ => l.length - (intOf t).toNat)
  case atStart => exact ⟨0, Nat.zero_le _, rfl, ⟨cs0, Blk.new _ _ _, HC0.out, by simp⟩, (Ext.refl _).alloc _⟩
  case round =>
    obtain ⟨j, hj, rfl, ⟨cs, hcs⟩, hx⟩ := hrel
    by_cases hlt : j < l.length
    · obtain ⟨b, o, rfl, hb, hcell⟩ := HR.out j l[j] (List.getElem?_eq_getElem hlt)
      obtain ⟨x, hxe⟩ : ∃ x, x = l[j] := ⟨_, rfl⟩
      rw [← hxe] at hcell
      have HX := Lib.hid hxe
      clear hxe
      have c0 : wr.cell? ⟨b, o + j * 5, none⟩ = some (.int .i64 (x.prio)) := by rw [Ext.cell hx hb]; exact hcell 0 _ rfl
      have c1 : wr.cell? ⟨b, o + j * 5 + 1, none⟩ = some (.int .i64 (x.field)) := by rw [Ext.cell hx hb]; exact hcell 1 _ rfl
      have c2 : wr.cell? ⟨b, o + j * 5 + 2, none⟩ = some (.int .i64 (x.mask)) := by rw [Ext.cell hx hb]; exact hcell 2 _ rfl
      have c3 : wr.cell? ⟨b, o + j * 5 + 3, none⟩ = some (.int .i64 (x.value)) := by rw [Ext.cell hx hb]; exact hcell 3 _ rfl
      have c4 : wr.cell? ⟨b, o + j * 5 + 4, none⟩ = some (.int .i64 (x.target)) := by rw [Ext.cell hx hb]; exact hcell 4 _ rfl
      clear hcell
      go_wp2_with fail
      refine (laws_toFilter_any x _).mono ?_
      rintro e w1 ⟨rfl, hb1⟩
      have hsz : (j + 1) * 5 ≤ cs.size := by rw [hcs.out.2.1]; exact Nat.mul_le_mul_right _ hlt
      have B1 := Lib.hid (hcs.out.1.ext hb1)
      obtain ⟨u0, d0⟩ := B1.out.cell (j * 5) (by omega)
      have f0 := B1.out.frozen (j * 5)
      obtain ⟨u1, d1⟩ := B1.out.cell (j * 5 + 1) (by omega)
      have f1 := B1.out.frozen (j * 5 + 1)
      obtain ⟨u2, d2⟩ := B1.out.cell (j * 5 + 2) (by omega)
      have f2 := B1.out.frozen (j * 5 + 2)
      obtain ⟨u3, d3⟩ := B1.out.cell (j * 5 + 3) (by omega)
      have f3 := B1.out.frozen (j * 5 + 3)
      obtain ⟨u4, d4⟩ := B1.out.cell (j * 5 + 4) (by omega)
      have f4 := B1.out.frozen (j * 5 + 4)
      clear c0 c1 c2 c3 c4
      go_wp2
      go_roundw
      case rel =>
        refine ⟨j + 1, by omega, by go_num, ⟨_, ((((B1.out.set_ (j * 5) _).set_ (j * 5 + 1) _).set_ (j * 5 + 2) _).set_ (j * 5 + 3) _).set_ (j * 5 + 4) _, by simpa using hcs.out.2.1, ?_⟩, ?_⟩
        · have hl : cs.toList.length = cs.size := by simp
          have t0 := hcs.out.2.2
          have t1 := take_set_next (m := j * 5) (by simp; omega) t0 (.int .i64 (x.prio))
          have t2 := take_set_next (m := j * 5 + 1) (by simp; omega) t1 (.int .i64 (x.field))
          have t3 := take_set_next (m := j * 5 + 2) (by simp; omega) t2 (.int .i64 (x.mask))
          have t4 := take_set_next (m := j * 5 + 3) (by simp; omega) t3 (.int .i64 (x.value))
          have t5 := take_set_next (m := j * 5 + 4) (by simp; omega) t4 (.int .i64 (x.target))
          rw [List.take_succ_eq_append_getElem hlt, ← HX.out, List.flatMap_append, show (j + 1) * 5 = j * 5 + 4 + 1 from by omega]
          simpa [Flt.cells] using t5
        · (repeat (first | (with_reducible exact Ext.refl _) | (with_reducible assumption) | (with_reducible apply Ext.alloc) | (with_reducible apply Ext.drew) | (with_reducible apply Ext.drewN) | ((with_reducible refine Ext.setCell ?_ ?_ _); rotate_left; (focus (first | (simp; done) | (simp; omega) | omega))) | (with_reducible refine Ext.trans ?_ (by assumption))))
      case measure => simp [intOf]; omega
    · obtain rfl : j = l.length := by omega
      go_wp2
      go_ret
      refine ⟨_, rfl, Own.of_blk hcs.out.1 (Nat.le_refl _) (Nat.le_refl _) (by unfold maxLen; omega) hcs.out.2.1 (by have := hcs.out.2.2; rwa [List.take_length] at this) Flt.len, hx⟩

theorem laws_eqFilterS_any (u v : Value) (l : List Flt) (w : World) (hu : Rd w 5 Flt.cells u l) (hv : Rd w 5 Flt.cells v l) (hl : l.length ≤ 2000000) :
    Calls Tryd.prog 32 #[u, v] w fun e w' => e = .returned (.bool true) ∧ Ext w w' := by
  obtain ⟨A, c, rfl, hc, ha⟩ := hu
  obtain ⟨B, d, rfl, hd, hb⟩ := hv
  have HA := Lib.hid ha
  have HB := Lib.hid hb
  clear ha hb
  have hq : ((l.length : Int) != (l.length : Int)) = false := by simp
  go_enter Tryd.func32, Tryd.ntmps32
  go_wp2
  go_loopw [5] (fun t wr => ∃ k : Nat, k ≤ l.length ∧ t = .int .i64 k ∧ Ext w wr) (fun t _ => l.length - (intOf t).toNat)
  case atStart => exact ⟨0, Nat.zero_le _, rfl, Ext.refl _⟩
  case round =>
    obtain ⟨k, hk, rfl, hx⟩ := hrel
    by_cases hlt : k < l.length
    · obtain ⟨b, o, rfl, hb, hcell⟩ := HA.out k l[k] (List.getElem?_eq_getElem hlt)
      obtain ⟨b', o', rfl, hb', hcell'⟩ := HB.out k l[k] (List.getElem?_eq_getElem hlt)
      generalize l[k] = x at hcell hcell'
      have c0 : wr.cell? ⟨b, o + k * 5, none⟩ = some (.int .i64 (x.prio)) := by rw [Ext.cell hx hb]; exact hcell 0 _ rfl
      have c1 : wr.cell? ⟨b, o + k * 5 + 1, none⟩ = some (.int .i64 (x.field)) := by rw [Ext.cell hx hb]; exact hcell 1 _ rfl
      have c2 : wr.cell? ⟨b, o + k * 5 + 2, none⟩ = some (.int .i64 (x.mask)) := by rw [Ext.cell hx hb]; exact hcell 2 _ rfl
      have c3 : wr.cell? ⟨b, o + k * 5 + 3, none⟩ = some (.int .i64 (x.value)) := by rw [Ext.cell hx hb]; exact hcell 3 _ rfl
      have c4 : wr.cell? ⟨b, o + k * 5 + 4, none⟩ = some (.int .i64 (x.target)) := by rw [Ext.cell hx hb]; exact hcell 4 _ rfl
      have d0 : wr.cell? ⟨b', o' + k * 5, none⟩ = some (.int .i64 (x.prio)) := by rw [Ext.cell hx hb']; exact hcell' 0 _ rfl
      have d1 : wr.cell? ⟨b', o' + k * 5 + 1, none⟩ = some (.int .i64 (x.field)) := by rw [Ext.cell hx hb']; exact hcell' 1 _ rfl
      have d2 : wr.cell? ⟨b', o' + k * 5 + 2, none⟩ = some (.int .i64 (x.mask)) := by rw [Ext.cell hx hb']; exact hcell' 2 _ rfl
      have d3 : wr.cell? ⟨b', o' + k * 5 + 3, none⟩ = some (.int .i64 (x.value)) := by rw [Ext.cell hx hb']; exact hcell' 3 _ rfl
      have d4 : wr.cell? ⟨b', o' + k * 5 + 4, none⟩ = some (.int .i64 (x.target)) := by rw [Ext.cell hx hb']; exact hcell' 4 _ rfl
      have z0 : b < wr.heap.size := Ext.lts hx _ hb
      have z1 : b' < wr.heap.size := Ext.lts hx _ hb'
      clear hcell hcell'
      (go_wp2_with fail; refine wp_region_ext (by kernel_rfl) (by kernel_rfl) ?_; (repeat (first | go_big_quiet_step ((first | (go_at_call 62; exact calls_later (laws_eqFilter_any _ _ )))) | quiet_step ((first | (go_at_call 62; exact calls_later (laws_eqFilter_any _ _ )))))); refine wpQuiet_nil ?_; intro wq hbq; (try (replace hbq := Ext.trans (by assumption) hbq)); have hcq := Ext.cells hbq; have hzq := Ext.frozens hbq; have hsq := Ext.lts hbq)
      go_wp2
      go_roundw
      case rel => exact ⟨k + 1, by omega, by go_num, by assumption⟩
      case measure => simp [intOf]; omega
    · go_wp2
      go_ret
      exact ⟨rfl, hx⟩

def mkFilter (k : Int) : Flt := ⟨k, k + 1, k + 1 + 1, k + 1 + 1 + 1, k + 1 + 1 + 1 + 1⟩
theorem laws_heldFilterS_any (v : Value) (k0 : Int) (n : Nat) (w : World) (hv : Rd w 5 Flt.cells v (mksOf mkFilter 5 k0 n)) (hk0 : 1 ≤ k0) (hl : k0 + 5 * n ≤ 4000000000) :
    Calls Tryd.prog 36 #[v, .int .i64 k0] w fun e w' => e = .returned (.int .i64 (k0 + 5 * n)) ∧ Ext w w' := by
  obtain ⟨A, c, rfl, hc, ha⟩ := hv
  rw [mksOf_len] at hc ⊢
  have HA := Lib.hid ha
  clear ha
  go_enter Tryd.func36, Tryd.ntmps36
  go_wp2
  go_loopw [5, 1] (fun t s wr => ∃ k : Nat, k ≤ n ∧ t = .int .i64 k ∧ s = .int .i64 (k0 + 5 * k) ∧ Ext w wr) (fun t _ _ => n - (intOf t).toNat)
  case atStart => exact ⟨0, Nat.zero_le _, rfl, by simp, Ext.refl _⟩
  case round =>
    obtain ⟨k, hk, rfl, rfl, hx⟩ := hrel
    by_cases hlt : k < n
    · obtain ⟨b, o, rfl, hb, hcell⟩ := HA.out k _ (mksOf_get mkFilter 5 k0 n k hlt)
      have c0 : wr.cell? ⟨b, o + k * 5, none⟩ = some (.int .i64 (k0 + 5 * (k : Int))) := by rw [Ext.cell hx hb]; exact hcell 0 _ rfl
      have c1 : wr.cell? ⟨b, o + k * 5 + 1, none⟩ = some (.int .i64 (k0 + 5 * (k : Int) + 1)) := by rw [Ext.cell hx hb]; exact hcell 1 _ rfl
      have c2 : wr.cell? ⟨b, o + k * 5 + 2, none⟩ = some (.int .i64 (k0 + 5 * (k : Int) + 1 + 1)) := by rw [Ext.cell hx hb]; exact hcell 2 _ rfl
      have c3 : wr.cell? ⟨b, o + k * 5 + 3, none⟩ = some (.int .i64 (k0 + 5 * (k : Int) + 1 + 1 + 1)) := by rw [Ext.cell hx hb]; exact hcell 3 _ rfl
      have c4 : wr.cell? ⟨b, o + k * 5 + 4, none⟩ = some (.int .i64 (k0 + 5 * (k : Int) + 1 + 1 + 1 + 1)) := by rw [Ext.cell hx hb]; exact hcell 4 _ rfl
      have z0 : b < wr.heap.size := Ext.lts hx _ hb
      clear hcell
      have q0 : ((k0 + 5 * (k : Int) : Int) != (k0 + 5 * (k : Int) : Int)) = false := by simp
      have q1 : ((k0 + 5 * (k : Int) + 1 : Int) != (k0 + 5 * (k : Int) + 1 : Int)) = false := by simp
      have q2 : ((k0 + 5 * (k : Int) + 1 + 1 : Int) != (k0 + 5 * (k : Int) + 1 + 1 : Int)) = false := by simp
      have q3 : ((k0 + 5 * (k : Int) + 1 + 1 + 1 : Int) != (k0 + 5 * (k : Int) + 1 + 1 + 1 : Int)) = false := by simp
      have q4 : ((k0 + 5 * (k : Int) + 1 + 1 + 1 + 1 : Int) != (k0 + 5 * (k : Int) + 1 + 1 + 1 + 1 : Int)) = false := by simp
      go_wp2
      go_roundw
      case rel => exact ⟨k + 1, by omega, by go_num, by go_num, by first | assumption | exact hx⟩
      case measure => simp [intOf]; omega
    · obtain rfl : k = n := by omega
      go_wp2
      go_ret
      exact ⟨rfl, hx⟩

theorem laws_markFilterS_any (v : Value) (l : List Flt) (k0 : Int) (base : Nat) (e : TypeId) (w : World) (hv : Own w base e 5 Flt.cells v l) (hk0 : 1 ≤ k0) (hl : k0 + 5 * l.length ≤ 4000000000) :
    Calls Tryd.prog 34 #[v, .int .i64 k0] w fun en w' => en = .returned (.int .i64 (k0 + 5 * l.length)) ∧ Own w' base e 5 Flt.cells v (mksOf mkFilter 5 k0 l.length) ∧ w.grownBy w' v.ownBlock := by
  rcases hv.2 with ⟨rfl, hn⟩ | ⟨g, cap, cur, rfl, hg, hh, hnc, hcm, hcs, hcur⟩
  · have hl0 : l = [] := List.eq_nil_of_length_eq_zero hn
    subst hl0
    go_enter Tryd.func34, Tryd.ntmps34
    go_wp2
    refine wp_loop_rounds 1 ?_
    rw [rounds_succ]
    go_wp2
    go_ret
    exact ⟨by simp, hv, World.grownBy.refl _ _⟩
  · have HS := Lib.hid hcs
    have HB := Lib.hid hh
    clear hv hh hcur hcs
    go_enter Tryd.func34, Tryd.ntmps34
    go_wp2
    go_loopw [5, 1] (fun t s wr => ∃ j : Nat, j ≤ l.length ∧ t = .int .i64 j ∧ s = .int .i64 (k0 + 5 * j) ∧ (∃ cs : Array Value, Hid (Blk wr g e cs ∧ cs.size = cap * 5 ∧ cs.toList.take (j * 5) = (mksOf mkFilter 5 k0 j).flatMap Flt.cells)) ∧ Hid (w.grownBy wr (some g))) (fun t _ _ => l.length - (intOf t).toNat)
    case atStart => exact ⟨0, Nat.zero_le _, rfl, by simp, ⟨cur, HB.out, HS.out, by simp [mksOf]⟩, World.grownBy.refl _ _⟩
    case round =>
      obtain ⟨j, hj, rfl, rfl, ⟨cs, hcs⟩, hgr⟩ := hrel
      by_cases hlt : j < l.length
      · have hsz : (j + 1) * 5 ≤ cs.size := by rw [hcs.out.2.1]; exact Nat.mul_le_mul_right _ (by omega)
        obtain ⟨u0, d0⟩ := hcs.out.1.cell (j * 5) (by omega)
        have f0 := hcs.out.1.frozen (j * 5)
        obtain ⟨u1, d1⟩ := hcs.out.1.cell (j * 5 + 1) (by omega)
        have f1 := hcs.out.1.frozen (j * 5 + 1)
        obtain ⟨u2, d2⟩ := hcs.out.1.cell (j * 5 + 2) (by omega)
        have f2 := hcs.out.1.frozen (j * 5 + 2)
        obtain ⟨u3, d3⟩ := hcs.out.1.cell (j * 5 + 3) (by omega)
        have f3 := hcs.out.1.frozen (j * 5 + 3)
        obtain ⟨u4, d4⟩ := hcs.out.1.cell (j * 5 + 4) (by omega)
        have f4 := hcs.out.1.frozen (j * 5 + 4)
        go_wp2
        go_roundw
        case rel =>
          refine ⟨j + 1, by omega, by go_num, by go_num, ⟨_, ((((hcs.out.1.set_ (j * 5) _).set_ (j * 5 + 1) _).set_ (j * 5 + 2) _).set_ (j * 5 + 3) _).set_ (j * 5 + 4) _, by simpa using hcs.out.2.1, ?_⟩, ?_⟩
          · have hl : cs.toList.length = cs.size := by simp
            have t0 := hcs.out.2.2
            have t1 := take_set_next (m := j * 5) (by simp; omega) t0 (.int .i64 (k0 + 5 * (j : Int)))
            have t2 := take_set_next (m := j * 5 + 1) (by simp; omega) t1 (.int .i64 (k0 + 5 * (j : Int) + 1))
            have t3 := take_set_next (m := j * 5 + 2) (by simp; omega) t2 (.int .i64 (k0 + 5 * (j : Int) + 1 + 1))
            have t4 := take_set_next (m := j * 5 + 3) (by simp; omega) t3 (.int .i64 (k0 + 5 * (j : Int) + 1 + 1 + 1))
            have t5 := take_set_next (m := j * 5 + 4) (by simp; omega) t4 (.int .i64 (k0 + 5 * (j : Int) + 1 + 1 + 1 + 1))
            rw [mksOf_succ, List.flatMap_append, show (j + 1) * 5 = j * 5 + 4 + 1 from by omega]
            simpa [mkFilter, Flt.cells] using t5
          · exact grown_setCell (grown_setCell (grown_setCell (grown_setCell (grown_setCell hgr.out _ _) _ _) _ _) _ _) _ _
        case measure => simp [intOf]; omega
      · obtain rfl : j = l.length := by omega
        go_wp2
        go_ret
        refine ⟨rfl, ?_, hgr.out⟩
        have hlen := mksOf_len mkFilter 5 k0 l.length
        have := Own.of_blk (l := mksOf mkFilter 5 k0 l.length) (cap := cap) hcs.out.1 hg (by rw [hlen]; exact hnc) hcm hcs.out.2.1 (by rw [hlen]; exact hcs.out.2.2) Flt.len
        rwa [hlen] at this
end Go.Proofs.YtidahgoihgodnaaDoor
