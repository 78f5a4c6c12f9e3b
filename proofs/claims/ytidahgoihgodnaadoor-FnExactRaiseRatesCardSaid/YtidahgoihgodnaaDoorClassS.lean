/- Contracts of the law's own functions on Class and slices of them: copied, equal, marked, held. -/
import Derived.Test.YtidahgoihgodnaaDoorProg
import Derived.Test.YtidahgoihgodnaaDoorMem
namespace Go.Proofs.YtidahgoihgodnaaDoor
open Go.RowKit
set_option maxRecDepth 20000
set_option maxHeartbeats 1000000
set_option linter.unusedSimpArgs false
set_option linter.unusedVariables false

theorem info_Class : (Tryd.prog.info? 47).map (fun i => (i.zero, i.size, i.bytes)) = some (some (.agg #[.int .i64 0, .int .i64 0, .int .i64 0, .int .i64 0, .int .i64 0, .int .i64 0, .int .i64 0, .int .i64 0]), 8, 64) := by kernel_rfl

theorem laws_toClass_any (x : Cls) (w : World) :
    Calls Tryd.prog 53 #[clsV x] w fun e w' => e = .returned (clsV x) ∧ Ext w w' := by
  go_enter Tryd.func53, Tryd.ntmps53
  go_wp2
  refine bodyPost_ret (v := clsV x) (by simp [results, Tryd.results53, go_sem]) rfl ⟨rfl, ?_⟩
  (repeat (first | (with_reducible exact Ext.refl _) | (with_reducible assumption) | (with_reducible apply Ext.alloc) | (with_reducible apply Ext.drew) | (with_reducible apply Ext.drewN) | ((with_reducible refine Ext.setCell ?_ ?_ _); rotate_left; (focus (first | (simp; done) | (simp; omega) | omega))) | (with_reducible refine Ext.trans ?_ (by assumption))))

theorem laws_eqClass_any (x : Cls) (w : World) :
    Calls Tryd.prog 61 #[clsV x, clsV x] w fun e w' => e = .returned (.bool true) ∧ Ext w w' := by
  go_enter Tryd.func61, Tryd.ntmps61
  go_wp2
  go_ret
  refine ⟨rfl, ?_⟩
  (repeat (first | (with_reducible exact Ext.refl _) | (with_reducible assumption) | (with_reducible apply Ext.alloc) | (with_reducible apply Ext.drew) | (with_reducible apply Ext.drewN) | ((with_reducible refine Ext.setCell ?_ ?_ _); rotate_left; (focus (first | (simp; done) | (simp; omega) | omega))) | (with_reducible refine Ext.trans ?_ (by assumption))))

theorem laws_toClassS_any (v : Value) (l : List Cls) (w : World) (h : Rd w 8 Cls.cells v l) (hl : l.length ≤ 1048576) :
    Calls Tryd.prog 24 #[v] w fun e w' => ∃ u, e = .returned u ∧ Own w' w.heap.size 47 8 Cls.cells u l ∧ Ext w w' := by
  obtain ⟨A, c, rfl, hc, hrd⟩ := h
  have HR := Lib.hid hrd
  clear hrd
  obtain ⟨cs0, hcs0, hmk⟩ : ∃ cs0 : Array Value, cs0.size = l.length * 8 ∧ ∀ W : World, (Instr.makeSlice 27 (.int .i64 (l.length : Int)) (.int .i64 (l.length : Int))).run Tryd.prog W = .ok (.slice (some ⟨W.heap.size, 0, none⟩) l.length l.length) (W.alloc (.cells cs0 47)) := by
    obtain ⟨i0, ii0, ii1, ii2, ii3⟩ := info_parts info_Class
    exact ⟨_, by rw [size_madeCells, ii2], fun W => run_make_rowN (P := Tryd.prog) 27 47 i0 _ Tryd.underlying27 ii0 ii1 .i64 .i64 l.length (by rw [ii3]; omega) (by omega) W⟩
  have HC0 := Lib.hid hcs0
  clear hcs0
  go_enter Tryd.func24, Tryd.ntmps24
  go_wp2
  clear hmk
  go_loopw [4] (fun t wr => ∃ j : Nat, j ≤ l.length ∧ t = .int .i64 j ∧ (∃ cs : Array Value, Hid (Blk wr w.heap.size 47 cs ∧ cs.size = l.length * 8 ∧ cs.toList.take (j * 8) = (l.take j).flatMap Cls.cells)) ∧ Ext w wr) (fun t _ => l.length - (intOf t).toNat)
  case atStart => exact ⟨0, Nat.zero_le _, rfl, ⟨cs0, Blk.new _ _ _, HC0.out, by simp⟩, (Ext.refl _).alloc _⟩
  case round =>
    obtain ⟨j, hj, rfl, ⟨cs, hcs⟩, hx⟩ := hrel
    by_cases hlt : j < l.length
    · obtain ⟨b, o, rfl, hb, hcell⟩ := HR.out j l[j] (List.getElem?_eq_getElem hlt)
      obtain ⟨x, hxe⟩ : ∃ x, x = l[j] := ⟨_, rfl⟩
      rw [← hxe] at hcell
      have HX := Lib.hid hxe
      clear hxe
      have c0 : wr.cell? ⟨b, o + j * 8, none⟩ = some (.int .i64 (x.id)) := by rw [Ext.cell hx hb]; exact hcell 0 _ rfl
      have c1 : wr.cell? ⟨b, o + j * 8 + 1, none⟩ = some (.int .i64 (x.parent)) := by rw [Ext.cell hx hb]; exact hcell 1 _ rfl
      have c2 : wr.cell? ⟨b, o + j * 8 + 2, none⟩ = some (.int .i64 (x.rate)) := by rw [Ext.cell hx hb]; exact hcell 2 _ rfl
      have c3 : wr.cell? ⟨b, o + j * 8 + 3, none⟩ = some (.int .i64 (x.ceil)) := by rw [Ext.cell hx hb]; exact hcell 3 _ rfl
      have c4 : wr.cell? ⟨b, o + j * 8 + 4, none⟩ = some (.int .i64 (x.burst)) := by rw [Ext.cell hx hb]; exact hcell 4 _ rfl
      have c5 : wr.cell? ⟨b, o + j * 8 + 5, none⟩ = some (.int .i64 (x.cburst)) := by rw [Ext.cell hx hb]; exact hcell 5 _ rfl
      have c6 : wr.cell? ⟨b, o + j * 8 + 6, none⟩ = some (.int .i64 (x.prio)) := by rw [Ext.cell hx hb]; exact hcell 6 _ rfl
      have c7 : wr.cell? ⟨b, o + j * 8 + 7, none⟩ = some (.int .i64 (x.limit)) := by rw [Ext.cell hx hb]; exact hcell 7 _ rfl
      clear hcell
      go_wp2_with fail
      refine (laws_toClass_any x _).mono ?_
      rintro e w1 ⟨rfl, hb1⟩
      have hsz : (j + 1) * 8 ≤ cs.size := by rw [hcs.out.2.1]; exact Nat.mul_le_mul_right _ hlt
      have B1 := Lib.hid (hcs.out.1.ext hb1)
      obtain ⟨u0, d0⟩ := B1.out.cell (j * 8) (by omega)
      have f0 := B1.out.frozen (j * 8)
      obtain ⟨u1, d1⟩ := B1.out.cell (j * 8 + 1) (by omega)
      have f1 := B1.out.frozen (j * 8 + 1)
      obtain ⟨u2, d2⟩ := B1.out.cell (j * 8 + 2) (by omega)
      have f2 := B1.out.frozen (j * 8 + 2)
      obtain ⟨u3, d3⟩ := B1.out.cell (j * 8 + 3) (by omega)
      have f3 := B1.out.frozen (j * 8 + 3)
      obtain ⟨u4, d4⟩ := B1.out.cell (j * 8 + 4) (by omega)
      have f4 := B1.out.frozen (j * 8 + 4)
      obtain ⟨u5, d5⟩ := B1.out.cell (j * 8 + 5) (by omega)
      have f5 := B1.out.frozen (j * 8 + 5)
      obtain ⟨u6, d6⟩ := B1.out.cell (j * 8 + 6) (by omega)
      have f6 := B1.out.frozen (j * 8 + 6)
      obtain ⟨u7, d7⟩ := B1.out.cell (j * 8 + 7) (by omega)
      have f7 := B1.out.frozen (j * 8 + 7)
      clear c0 c1 c2 c3 c4 c5 c6 c7
      go_wp2
      go_roundw
      case rel =>
        refine ⟨j + 1, by omega, by go_num, ⟨_, (((((((B1.out.set_ (j * 8) _).set_ (j * 8 + 1) _).set_ (j * 8 + 2) _).set_ (j * 8 + 3) _).set_ (j * 8 + 4) _).set_ (j * 8 + 5) _).set_ (j * 8 + 6) _).set_ (j * 8 + 7) _, by simpa using hcs.out.2.1, ?_⟩, ?_⟩
        · have hl : cs.toList.length = cs.size := by simp
          have t0 := hcs.out.2.2
          have t1 := take_set_next (m := j * 8) (by simp; omega) t0 (.int .i64 (x.id))
          have t2 := take_set_next (m := j * 8 + 1) (by simp; omega) t1 (.int .i64 (x.parent))
          have t3 := take_set_next (m := j * 8 + 2) (by simp; omega) t2 (.int .i64 (x.rate))
          have t4 := take_set_next (m := j * 8 + 3) (by simp; omega) t3 (.int .i64 (x.ceil))
          have t5 := take_set_next (m := j * 8 + 4) (by simp; omega) t4 (.int .i64 (x.burst))
          have t6 := take_set_next (m := j * 8 + 5) (by simp; omega) t5 (.int .i64 (x.cburst))
          have t7 := take_set_next (m := j * 8 + 6) (by simp; omega) t6 (.int .i64 (x.prio))
          have t8 := take_set_next (m := j * 8 + 7) (by simp; omega) t7 (.int .i64 (x.limit))
          rw [List.take_succ_eq_append_getElem hlt, ← HX.out, List.flatMap_append, show (j + 1) * 8 = j * 8 + 7 + 1 from by omega]
          simpa [Cls.cells] using t8
        · (repeat (first | (with_reducible exact Ext.refl _) | (with_reducible assumption) | (with_reducible apply Ext.alloc) | (with_reducible apply Ext.drew) | (with_reducible apply Ext.drewN) | ((with_reducible refine Ext.setCell ?_ ?_ _); rotate_left; (focus (first | (simp; done) | (simp; omega) | omega))) | (with_reducible refine Ext.trans ?_ (by assumption))))
      case measure => simp [intOf]; omega
    · obtain rfl : j = l.length := by omega
      go_wp2
      go_ret
      refine ⟨_, rfl, Own.of_blk hcs.out.1 (Nat.le_refl _) (Nat.le_refl _) (by unfold maxLen; omega) hcs.out.2.1 (by have := hcs.out.2.2; rwa [List.take_length] at this) Cls.len, hx⟩

theorem laws_eqClassS_any (u v : Value) (l : List Cls) (w : World) (hu : Rd w 8 Cls.cells u l) (hv : Rd w 8 Cls.cells v l) (hl : l.length ≤ 2000000) :
    Calls Tryd.prog 31 #[u, v] w fun e w' => e = .returned (.bool true) ∧ Ext w w' := by
  obtain ⟨A, c, rfl, hc, ha⟩ := hu
  obtain ⟨B, d, rfl, hd, hb⟩ := hv
  have HA := Lib.hid ha
  have HB := Lib.hid hb
  clear ha hb
  have hq : ((l.length : Int) != (l.length : Int)) = false := by simp
  go_enter Tryd.func31, Tryd.ntmps31
  go_wp2
  go_loopw [5] (fun t wr => ∃ k : Nat, k ≤ l.length ∧ t = .int .i64 k ∧ Ext w wr) (fun t _ => l.length - (intOf t).toNat)
  case atStart => exact ⟨0, Nat.zero_le _, rfl, Ext.refl _⟩
  case round =>
    obtain ⟨k, hk, rfl, hx⟩ := hrel
    by_cases hlt : k < l.length
    · obtain ⟨b, o, rfl, hb, hcell⟩ := HA.out k l[k] (List.getElem?_eq_getElem hlt)
      obtain ⟨b', o', rfl, hb', hcell'⟩ := HB.out k l[k] (List.getElem?_eq_getElem hlt)
      generalize l[k] = x at hcell hcell'
      have c0 : wr.cell? ⟨b, o + k * 8, none⟩ = some (.int .i64 (x.id)) := by rw [Ext.cell hx hb]; exact hcell 0 _ rfl
      have c1 : wr.cell? ⟨b, o + k * 8 + 1, none⟩ = some (.int .i64 (x.parent)) := by rw [Ext.cell hx hb]; exact hcell 1 _ rfl
      have c2 : wr.cell? ⟨b, o + k * 8 + 2, none⟩ = some (.int .i64 (x.rate)) := by rw [Ext.cell hx hb]; exact hcell 2 _ rfl
      have c3 : wr.cell? ⟨b, o + k * 8 + 3, none⟩ = some (.int .i64 (x.ceil)) := by rw [Ext.cell hx hb]; exact hcell 3 _ rfl
      have c4 : wr.cell? ⟨b, o + k * 8 + 4, none⟩ = some (.int .i64 (x.burst)) := by rw [Ext.cell hx hb]; exact hcell 4 _ rfl
      have c5 : wr.cell? ⟨b, o + k * 8 + 5, none⟩ = some (.int .i64 (x.cburst)) := by rw [Ext.cell hx hb]; exact hcell 5 _ rfl
      have c6 : wr.cell? ⟨b, o + k * 8 + 6, none⟩ = some (.int .i64 (x.prio)) := by rw [Ext.cell hx hb]; exact hcell 6 _ rfl
      have c7 : wr.cell? ⟨b, o + k * 8 + 7, none⟩ = some (.int .i64 (x.limit)) := by rw [Ext.cell hx hb]; exact hcell 7 _ rfl
      have d0 : wr.cell? ⟨b', o' + k * 8, none⟩ = some (.int .i64 (x.id)) := by rw [Ext.cell hx hb']; exact hcell' 0 _ rfl
      have d1 : wr.cell? ⟨b', o' + k * 8 + 1, none⟩ = some (.int .i64 (x.parent)) := by rw [Ext.cell hx hb']; exact hcell' 1 _ rfl
      have d2 : wr.cell? ⟨b', o' + k * 8 + 2, none⟩ = some (.int .i64 (x.rate)) := by rw [Ext.cell hx hb']; exact hcell' 2 _ rfl
      have d3 : wr.cell? ⟨b', o' + k * 8 + 3, none⟩ = some (.int .i64 (x.ceil)) := by rw [Ext.cell hx hb']; exact hcell' 3 _ rfl
      have d4 : wr.cell? ⟨b', o' + k * 8 + 4, none⟩ = some (.int .i64 (x.burst)) := by rw [Ext.cell hx hb']; exact hcell' 4 _ rfl
      have d5 : wr.cell? ⟨b', o' + k * 8 + 5, none⟩ = some (.int .i64 (x.cburst)) := by rw [Ext.cell hx hb']; exact hcell' 5 _ rfl
      have d6 : wr.cell? ⟨b', o' + k * 8 + 6, none⟩ = some (.int .i64 (x.prio)) := by rw [Ext.cell hx hb']; exact hcell' 6 _ rfl
      have d7 : wr.cell? ⟨b', o' + k * 8 + 7, none⟩ = some (.int .i64 (x.limit)) := by rw [Ext.cell hx hb']; exact hcell' 7 _ rfl
      have z0 : b < wr.heap.size := Ext.lts hx _ hb
      have z1 : b' < wr.heap.size := Ext.lts hx _ hb'
      clear hcell hcell'
      (go_wp2_with fail; refine wp_region_ext (by kernel_rfl) (by kernel_rfl) ?_; (repeat (first | go_big_quiet_step ((first | (go_at_call 61; exact calls_later (laws_eqClass_any _ _ )))) | quiet_step ((first | (go_at_call 61; exact calls_later (laws_eqClass_any _ _ )))))); refine wpQuiet_nil ?_; intro wq hbq; (try (replace hbq := Ext.trans (by assumption) hbq)); have hcq := Ext.cells hbq; have hzq := Ext.frozens hbq; have hsq := Ext.lts hbq)
      go_wp2
      go_roundw
      case rel => exact ⟨k + 1, by omega, by go_num, by assumption⟩
      case measure => simp [intOf]; omega
    · go_wp2
      go_ret
      exact ⟨rfl, hx⟩

def mkClass (k : Int) : Cls := ⟨k, k + 1, k + 1 + 1, k + 1 + 1 + 1, k + 1 + 1 + 1 + 1, k + 1 + 1 + 1 + 1 + 1, k + 1 + 1 + 1 + 1 + 1 + 1, k + 1 + 1 + 1 + 1 + 1 + 1 + 1⟩
theorem laws_heldClassS_any (v : Value) (k0 : Int) (n : Nat) (w : World) (hv : Rd w 8 Cls.cells v (mksOf mkClass 8 k0 n)) (hk0 : 1 ≤ k0) (hl : k0 + 8 * n ≤ 4000000000) :
    Calls Tryd.prog 35 #[v, .int .i64 k0] w fun e w' => e = .returned (.int .i64 (k0 + 8 * n)) ∧ Ext w w' := by
  obtain ⟨A, c, rfl, hc, ha⟩ := hv
  rw [mksOf_len] at hc ⊢
  have HA := Lib.hid ha
  clear ha
  go_enter Tryd.func35, Tryd.ntmps35
  go_wp2
  go_loopw [5, 1] (fun t s wr => ∃ k : Nat, k ≤ n ∧ t = .int .i64 k ∧ s = .int .i64 (k0 + 8 * k) ∧ Ext w wr) (fun t _ _ => n - (intOf t).toNat)
  case atStart => exact ⟨0, Nat.zero_le _, rfl, by simp, Ext.refl _⟩
  case round =>
    obtain ⟨k, hk, rfl, rfl, hx⟩ := hrel
    by_cases hlt : k < n
    · obtain ⟨b, o, rfl, hb, hcell⟩ := HA.out k _ (mksOf_get mkClass 8 k0 n k hlt)
      have c0 : wr.cell? ⟨b, o + k * 8, none⟩ = some (.int .i64 (k0 + 8 * (k : Int))) := by rw [Ext.cell hx hb]; exact hcell 0 _ rfl
      have c1 : wr.cell? ⟨b, o + k * 8 + 1, none⟩ = some (.int .i64 (k0 + 8 * (k : Int) + 1)) := by rw [Ext.cell hx hb]; exact hcell 1 _ rfl
      have c2 : wr.cell? ⟨b, o + k * 8 + 2, none⟩ = some (.int .i64 (k0 + 8 * (k : Int) + 1 + 1)) := by rw [Ext.cell hx hb]; exact hcell 2 _ rfl
      have c3 : wr.cell? ⟨b, o + k * 8 + 3, none⟩ = some (.int .i64 (k0 + 8 * (k : Int) + 1 + 1 + 1)) := by rw [Ext.cell hx hb]; exact hcell 3 _ rfl
      have c4 : wr.cell? ⟨b, o + k * 8 + 4, none⟩ = some (.int .i64 (k0 + 8 * (k : Int) + 1 + 1 + 1 + 1)) := by rw [Ext.cell hx hb]; exact hcell 4 _ rfl
      have c5 : wr.cell? ⟨b, o + k * 8 + 5, none⟩ = some (.int .i64 (k0 + 8 * (k : Int) + 1 + 1 + 1 + 1 + 1)) := by rw [Ext.cell hx hb]; exact hcell 5 _ rfl
      have c6 : wr.cell? ⟨b, o + k * 8 + 6, none⟩ = some (.int .i64 (k0 + 8 * (k : Int) + 1 + 1 + 1 + 1 + 1 + 1)) := by rw [Ext.cell hx hb]; exact hcell 6 _ rfl
      have c7 : wr.cell? ⟨b, o + k * 8 + 7, none⟩ = some (.int .i64 (k0 + 8 * (k : Int) + 1 + 1 + 1 + 1 + 1 + 1 + 1)) := by rw [Ext.cell hx hb]; exact hcell 7 _ rfl
      have z0 : b < wr.heap.size := Ext.lts hx _ hb
      clear hcell
      have q0 : ((k0 + 8 * (k : Int) : Int) != (k0 + 8 * (k : Int) : Int)) = false := by simp
      have q1 : ((k0 + 8 * (k : Int) + 1 : Int) != (k0 + 8 * (k : Int) + 1 : Int)) = false := by simp
      have q2 : ((k0 + 8 * (k : Int) + 1 + 1 : Int) != (k0 + 8 * (k : Int) + 1 + 1 : Int)) = false := by simp
      have q3 : ((k0 + 8 * (k : Int) + 1 + 1 + 1 : Int) != (k0 + 8 * (k : Int) + 1 + 1 + 1 : Int)) = false := by simp
      have q4 : ((k0 + 8 * (k : Int) + 1 + 1 + 1 + 1 : Int) != (k0 + 8 * (k : Int) + 1 + 1 + 1 + 1 : Int)) = false := by simp
      have q5 : ((k0 + 8 * (k : Int) + 1 + 1 + 1 + 1 + 1 : Int) != (k0 + 8 * (k : Int) + 1 + 1 + 1 + 1 + 1 : Int)) = false := by simp
      have q6 : ((k0 + 8 * (k : Int) + 1 + 1 + 1 + 1 + 1 + 1 : Int) != (k0 + 8 * (k : Int) + 1 + 1 + 1 + 1 + 1 + 1 : Int)) = false := by simp
      have q7 : ((k0 + 8 * (k : Int) + 1 + 1 + 1 + 1 + 1 + 1 + 1 : Int) != (k0 + 8 * (k : Int) + 1 + 1 + 1 + 1 + 1 + 1 + 1 : Int)) = false := by simp
      go_wp2
      go_roundw
      case rel => exact ⟨k + 1, by omega, by go_num, by go_num, by first | assumption | exact hx⟩
      case measure => simp [intOf]; omega
    · obtain rfl : k = n := by omega
      go_wp2
      go_ret
      exact ⟨rfl, hx⟩

theorem laws_markClassS_any (v : Value) (l : List Cls) (k0 : Int) (base : Nat) (e : TypeId) (w : World) (hv : Own w base e 8 Cls.cells v l) (hk0 : 1 ≤ k0) (hl : k0 + 8 * l.length ≤ 4000000000) :
    Calls Tryd.prog 33 #[v, .int .i64 k0] w fun en w' => en = .returned (.int .i64 (k0 + 8 * l.length)) ∧ Own w' base e 8 Cls.cells v (mksOf mkClass 8 k0 l.length) ∧ w.grownBy w' v.ownBlock := by
  rcases hv.2 with ⟨rfl, hn⟩ | ⟨g, cap, cur, rfl, hg, hh, hnc, hcm, hcs, hcur⟩
  · have hl0 : l = [] := List.eq_nil_of_length_eq_zero hn
    subst hl0
    go_enter Tryd.func33, Tryd.ntmps33
    go_wp2
    refine wp_loop_rounds 1 ?_
    rw [rounds_succ]
    go_wp2
    go_ret
    exact ⟨by simp, hv, World.grownBy.refl _ _⟩
  · have HS := Lib.hid hcs
    have HB := Lib.hid hh
    clear hv hh hcur hcs
    go_enter Tryd.func33, Tryd.ntmps33
    go_wp2
    go_loopw [5, 1] (fun t s wr => ∃ j : Nat, j ≤ l.length ∧ t = .int .i64 j ∧ s = .int .i64 (k0 + 8 * j) ∧ (∃ cs : Array Value, Hid (Blk wr g e cs ∧ cs.size = cap * 8 ∧ cs.toList.take (j * 8) = (mksOf mkClass 8 k0 j).flatMap Cls.cells)) ∧ Hid (w.grownBy wr (some g))) (fun t _ _ => l.length - (intOf t).toNat)
    case atStart => exact ⟨0, Nat.zero_le _, rfl, by simp, ⟨cur, HB.out, HS.out, by simp [mksOf]⟩, World.grownBy.refl _ _⟩
    case round =>
      obtain ⟨j, hj, rfl, rfl, ⟨cs, hcs⟩, hgr⟩ := hrel
      by_cases hlt : j < l.length
      · have hsz : (j + 1) * 8 ≤ cs.size := by rw [hcs.out.2.1]; exact Nat.mul_le_mul_right _ (by omega)
        obtain ⟨u0, d0⟩ := hcs.out.1.cell (j * 8) (by omega)
        have f0 := hcs.out.1.frozen (j * 8)
        obtain ⟨u1, d1⟩ := hcs.out.1.cell (j * 8 + 1) (by omega)
        have f1 := hcs.out.1.frozen (j * 8 + 1)
        obtain ⟨u2, d2⟩ := hcs.out.1.cell (j * 8 + 2) (by omega)
        have f2 := hcs.out.1.frozen (j * 8 + 2)
        obtain ⟨u3, d3⟩ := hcs.out.1.cell (j * 8 + 3) (by omega)
        have f3 := hcs.out.1.frozen (j * 8 + 3)
        obtain ⟨u4, d4⟩ := hcs.out.1.cell (j * 8 + 4) (by omega)
        have f4 := hcs.out.1.frozen (j * 8 + 4)
        obtain ⟨u5, d5⟩ := hcs.out.1.cell (j * 8 + 5) (by omega)
        have f5 := hcs.out.1.frozen (j * 8 + 5)
        obtain ⟨u6, d6⟩ := hcs.out.1.cell (j * 8 + 6) (by omega)
        have f6 := hcs.out.1.frozen (j * 8 + 6)
        obtain ⟨u7, d7⟩ := hcs.out.1.cell (j * 8 + 7) (by omega)
        have f7 := hcs.out.1.frozen (j * 8 + 7)
        go_wp2
        go_roundw
        case rel =>
          refine ⟨j + 1, by omega, by go_num, by go_num, ⟨_, (((((((hcs.out.1.set_ (j * 8) _).set_ (j * 8 + 1) _).set_ (j * 8 + 2) _).set_ (j * 8 + 3) _).set_ (j * 8 + 4) _).set_ (j * 8 + 5) _).set_ (j * 8 + 6) _).set_ (j * 8 + 7) _, by simpa using hcs.out.2.1, ?_⟩, ?_⟩
          · have hl : cs.toList.length = cs.size := by simp
            have t0 := hcs.out.2.2
            have t1 := take_set_next (m := j * 8) (by simp; omega) t0 (.int .i64 (k0 + 8 * (j : Int)))
            have t2 := take_set_next (m := j * 8 + 1) (by simp; omega) t1 (.int .i64 (k0 + 8 * (j : Int) + 1))
            have t3 := take_set_next (m := j * 8 + 2) (by simp; omega) t2 (.int .i64 (k0 + 8 * (j : Int) + 1 + 1))
            have t4 := take_set_next (m := j * 8 + 3) (by simp; omega) t3 (.int .i64 (k0 + 8 * (j : Int) + 1 + 1 + 1))
            have t5 := take_set_next (m := j * 8 + 4) (by simp; omega) t4 (.int .i64 (k0 + 8 * (j : Int) + 1 + 1 + 1 + 1))
            have t6 := take_set_next (m := j * 8 + 5) (by simp; omega) t5 (.int .i64 (k0 + 8 * (j : Int) + 1 + 1 + 1 + 1 + 1))
            have t7 := take_set_next (m := j * 8 + 6) (by simp; omega) t6 (.int .i64 (k0 + 8 * (j : Int) + 1 + 1 + 1 + 1 + 1 + 1))
            have t8 := take_set_next (m := j * 8 + 7) (by simp; omega) t7 (.int .i64 (k0 + 8 * (j : Int) + 1 + 1 + 1 + 1 + 1 + 1 + 1))
            rw [mksOf_succ, List.flatMap_append, show (j + 1) * 8 = j * 8 + 7 + 1 from by omega]
            simpa [mkClass, Cls.cells] using t8
          · exact grown_setCell (grown_setCell (grown_setCell (grown_setCell (grown_setCell (grown_setCell (grown_setCell (grown_setCell hgr.out _ _) _ _) _ _) _ _) _ _) _ _) _ _) _ _
        case measure => simp [intOf]; omega
      · obtain rfl : j = l.length := by omega
        go_wp2
        go_ret
        refine ⟨rfl, ?_, hgr.out⟩
        have hlen := mksOf_len mkClass 8 k0 l.length
        have := Own.of_blk (l := mksOf mkClass 8 k0 l.length) (cap := cap) hcs.out.1 hg (by rw [hlen]; exact hnc) hcm hcs.out.2.1 (by rw [hlen]; exact hcs.out.2.2) Cls.len
        rwa [hlen] at this
end Go.Proofs.YtidahgoihgodnaaDoor
