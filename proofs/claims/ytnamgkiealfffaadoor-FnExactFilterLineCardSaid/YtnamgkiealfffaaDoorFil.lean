/- The line of a filter: contracts of both sides. Printed by wip/tools/gen_fil.py. -/
import Derived.Test.YtnamgkiealfffaaDoorHex
import Derived.Deep.RegionHeld3
namespace Go.Proofs.YtnamgkiealfffaaDoor
open Go.RowKit
set_option maxRecDepth 20000
set_option maxHeartbeats 1000000
set_option linter.unusedSimpArgs false
set_option linter.unusedVariables false

theorem bcF {w : World} {g : Nat} {T : TypeId} {a0 a1 a2 a3 a4 : Value} (h : Blk w g T #[a0, a1, a2, a3, a4]) : w.cell? ⟨g, 0, none⟩ = some a0 ∧ w.cell? ⟨g, 1, none⟩ = some a1 ∧ w.cell? ⟨g, 2, none⟩ = some a2 ∧ w.cell? ⟨g, 3, none⟩ = some a3 ∧ w.cell? ⟨g, 4, none⟩ = some a4 ∧ g < w.heap.size := by
  have hl := h.lt
  unfold Blk at h
  exact ⟨by simp [World.cell?, h], by simp [World.cell?, h], by simp [World.cell?, h], by simp [World.cell?, h], by simp [World.cell?, h], hl⟩
theorem row_ext {w w' : World} {b i : Nat} {v : Value} (h : w.cell? ⟨b, i, none⟩ = some v) (hx : Ext w w') : w'.cell? ⟨b, i, none⟩ = some v := by
  rw [Ext.cell hx]
  · exact h
  · rcases Nat.lt_or_ge b w.heap.size with h1 | h1
    · exact h1
    · simp [World.cell?, Array.getElem?_eq_none h1] at h
section
variable {P : Program} {md : Region.Mode} {ops : Array Oper} {Q : Exit → Act → World → Prop} {S S' : World → Prop}
/-- Behind a step more may be held of the world. -/
theorem wpAnyH_strong (hs : ∀ w, S' w → S w) : ∀ (fuel : Nat) (listed : Array Bool) (a : Act) (w : World), wpAnyH P md ops Q S' fuel listed a w → wpAnyH P md ops Q S fuel listed a w
  | 0, _, _, _, h => h
  | fuel + 1, _, _, _, h => ⟨h.1, fun i hi => wpOp_mono (fun a' w' h' => ⟨hs _ h'.1, wpAnyH_strong hs fuel _ a' w' h'.2⟩) (h.2 i hi)⟩
theorem shut_strong {fuel : Nat} {listed : Array Bool} {K : Act → World → Prop} (hs : ∀ w, S' w → S w) (h : Shut (∀ a w, S w → (S w → wpAnyH P md ops Q S fuel listed a w) → K a w)) :
    Shut (∀ a w, S w → (S w → wpAnyH P md ops Q S fuel listed a w) → K a w) = Shut (∀ a w, S' w → (S' w → wpAnyH P md ops Q S' fuel listed a w) → K a w) :=
  propext ⟨fun _ a w h1 h2 => h a w (hs w h1) (fun _ => wpAnyH_strong hs fuel listed a w (h2 h1)), fun _ => h⟩
end
theorem fil_parts {x : Flt} (h : filOk x = true) : (1 ≤ x.prio ∧ x.prio ≤ 99) ∧ (0 ≤ x.field ∧ x.field ≤ 3) ∧ (0 ≤ x.mask ∧ x.mask ≤ 65535) ∧ (0 ≤ x.value ∧ x.value ≤ 65535) ∧ 1 ≤ x.target ∧ x.target ≤ 999 := by
  simp only [filOk, filB1, fltB, Bool.and_eq_true, inR_iff] at h
  obtain ⟨⟨a, ⟨⟨b, c⟩, d⟩, _⟩, e⟩ := h
  exact ⟨a, b, c, d, e⟩
theorem spec_prFilter_0 (xp xm xv xt : Int) (w : World) (h1 : 1 ≤ xp ∧ xp ≤ 99) (h3 : 0 ≤ xm ∧ xm ≤ 65535) (h4 : 0 ≤ xv ∧ xv ≤ 65535) (h5 : 1 ≤ xt ∧ xt ≤ 999) :
    Calls Tryd.prog 23 #[.agg #[.int .i64 xp, .int .i64 0, .int .i64 xm, .int .i64 xv, .int .i64 xt]] w fun e w' => e = .returned (.string (filT ⟨xp, 0, xm, xv, xt⟩)) ∧ Ext w w' := by
  obtain ⟨a0, a1⟩ := h1
  obtain ⟨c0, c1⟩ := h3
  obtain ⟨d0, d1⟩ := h4
  obtain ⟨e0, e1⟩ := h5
  have s1 := dec_size (n := xp) (by omega)
  have s2 := hexT_size d0 d1
  have s3 := hexT_size c0 c1
  have s4 := dec_size (n := xt) (by omega)
  have t0 : ¬ 9223372036854775807 < 7 + (dec xp).size := by omega
  have t1 : ¬ 9223372036854775807 < 7 + (dec xp).size + 1 := by omega
  have t2 : ¬ 9223372036854775807 < 7 + (dec xp).size + 1 + 6 := by omega
  have t3 : ¬ 9223372036854775807 < 7 + (dec xp).size + 1 + 6 + 1 := by omega
  have t4 : ¬ 9223372036854775807 < 7 + (dec xp).size + 1 + 6 + 1 + (hexT xv).size := by omega
  have t5 : ¬ 9223372036854775807 < 7 + (dec xp).size + 1 + 6 + 1 + (hexT xv).size + 3 := by omega
  have t6 : ¬ 9223372036854775807 < 7 + (dec xp).size + 1 + 6 + 1 + (hexT xv).size + 3 + (hexT xm).size := by omega
  have t7 : ¬ 9223372036854775807 < 7 + (dec xp).size + 1 + 6 + 1 + (hexT xv).size + 3 + (hexT xm).size + 4 := by omega
  have t8 : ¬ 9223372036854775807 < 7 + (dec xp).size + 1 + 6 + 1 + (hexT xv).size + 3 + (hexT xm).size + 4 + (dec xt).size := by omega
  have t9 : ¬ 9223372036854775807 < 7 + (dec xp).size + 1 + 6 + 1 + (hexT xv).size + 3 + (hexT xm).size + 4 + (dec xt).size + 1 := by omega
  have t10 : ¬ 9223372036854775807 < 7 + (dec xp).size + 7 := by omega
  have t11 : ¬ 9223372036854775807 < 7 + (dec xp).size + 7 + 1 := by omega
  have t12 : ¬ 9223372036854775807 < 7 + (dec xp).size + 7 + 1 + (hexT xv).size := by omega
  have t13 : ¬ 9223372036854775807 < 7 + (dec xp).size + 7 + 1 + (hexT xv).size + 3 := by omega
  have t14 : ¬ 9223372036854775807 < 7 + (dec xp).size + 7 + 1 + (hexT xv).size + 3 + (hexT xm).size := by omega
  have t15 : ¬ 9223372036854775807 < 7 + (dec xp).size + 7 + 1 + (hexT xv).size + 3 + (hexT xm).size + 4 := by omega
  have t16 : ¬ 9223372036854775807 < 7 + (dec xp).size + 7 + 1 + (hexT xv).size + 3 + (hexT xm).size + 4 + (dec xt).size := by omega
  have t17 : ¬ 9223372036854775807 < 7 + (dec xp).size + 7 + 1 + (hexT xv).size + 3 + (hexT xm).size + 4 + (dec xt).size + 1 := by omega
  have t18 : ¬ 9223372036854775807 < 7 + (dec xp).size + 8 := by omega
  have t19 : ¬ 9223372036854775807 < 7 + (dec xp).size + 8 + (hexT xv).size := by omega
  have t20 : ¬ 9223372036854775807 < 7 + (dec xp).size + 8 + (hexT xv).size + 3 := by omega
  have t21 : ¬ 9223372036854775807 < 7 + (dec xp).size + 8 + (hexT xv).size + 3 + (hexT xm).size := by omega
  have t22 : ¬ 9223372036854775807 < 7 + (dec xp).size + 8 + (hexT xv).size + 3 + (hexT xm).size + 4 := by omega
  have t23 : ¬ 9223372036854775807 < 7 + (dec xp).size + 8 + (hexT xv).size + 3 + (hexT xm).size + 4 + (dec xt).size := by omega
  have t24 : ¬ 9223372036854775807 < 7 + (dec xp).size + 8 + (hexT xv).size + 3 + (hexT xm).size + 4 + (dec xt).size + 1 := by omega
  have BX := Lib.hid (Blk.new w 32 #[.int .i64 xp, .int .i64 0, .int .i64 xm, .int .i64 xv, .int .i64 xt])
  have E0 := (Ext.refl w).alloc (.cells #[.int .i64 xp, .int .i64 0, .int .i64 xm, .int .i64 xv, .int .i64 xt] 32)
  have D0 := (Ext.refl (w.alloc (.cells #[.int .i64 xp, .int .i64 0, .int .i64 xm, .int .i64 xv, .int .i64 xt] 32))).drew
  obtain ⟨q0, q1, q2, q3, q4, q5⟩ := bcF (BX.out.ext D0)
  go_enter Tryd.func23, Tryd.ntmps23
  go_wp2_with fail
  go_region_held3 (fun w' => w'.cell? ⟨w.heap.size, 0, none⟩ = some (.int .i64 xp) ∧ w'.cell? ⟨w.heap.size, 1, none⟩ = some (.int .i64 0) ∧ w'.cell? ⟨w.heap.size, 2, none⟩ = some (.int .i64 xm) ∧ w'.cell? ⟨w.heap.size, 3, none⟩ = some (.int .i64 xv) ∧ w'.cell? ⟨w.heap.size, 4, none⟩ = some (.int .i64 xt)) (first | (with_reducible exact ⟨q0, q1, q2, q3, q4⟩) | (with_reducible exact ⟨q0, q1, q2, q3, q4, rr⟩) | go_keep) (first | (go_at_call 35; refine (spec_l1Num_any 10000000001 _ _ (by omega) (by omega) (by omega)).mono ?_; rintro e w2 ⟨rfl, F2⟩; have D2 := Ext.trans (by assumption) F2; obtain ⟨q0, q1, q2, q3, q4, q5⟩ := bcF (BX.out.ext D2); first | (replace rr := row_ext rr F2) | skip) | (go_at_call 39; refine (spec_prFields_any _).mono ?_; rintro e w2 ⟨b, rfl, ⟨r0, r1, r2, r3⟩, F2⟩; have D2 := Ext.trans (by assumption) F2; obtain ⟨q0, q1, q2, q3, q4, q5⟩ := bcF (BX.out.ext D2); have rr := r0; clear r0 r1 r2 r3; have e := shut_strong (S := (fun w' => w'.cell? ⟨w.heap.size, 0, none⟩ = some (.int .i64 xp) ∧ w'.cell? ⟨w.heap.size, 1, none⟩ = some (.int .i64 0) ∧ w'.cell? ⟨w.heap.size, 2, none⟩ = some (.int .i64 xm) ∧ w'.cell? ⟨w.heap.size, 3, none⟩ = some (.int .i64 xv) ∧ w'.cell? ⟨w.heap.size, 4, none⟩ = some (.int .i64 xt))) (S' := (fun w' => w'.cell? ⟨w.heap.size, 0, none⟩ = some (.int .i64 xp) ∧ w'.cell? ⟨w.heap.size, 1, none⟩ = some (.int .i64 0) ∧ w'.cell? ⟨w.heap.size, 2, none⟩ = some (.int .i64 xm) ∧ w'.cell? ⟨w.heap.size, 3, none⟩ = some (.int .i64 xv) ∧ w'.cell? ⟨w.heap.size, 4, none⟩ = some (.int .i64 xt) ∧ w'.cell? ⟨b, 0, none⟩ = some (.string ⟨#[115, 111, 117, 114, 99, 101]⟩))) (fun w' h => ⟨h.1, h.2.1, h.2.2.1, h.2.2.2.1, h.2.2.2.2.1⟩) ‹Shut _›; simp only [e] at *; clear e) | (go_at_call 40; refine (spec_nuHex_any _ _ (by omega) (by omega)).mono ?_; rintro e w2 ⟨rfl, F2⟩; have D2 := Ext.trans (by assumption) F2; obtain ⟨q0, q1, q2, q3, q4, q5⟩ := bcF (BX.out.ext D2); first | (replace rr := row_ext rr F2) | skip))
  go_wp2
  go_ret
  exact ⟨rfl, by (repeat (first | (with_reducible exact Ext.refl _) | (with_reducible assumption) | (with_reducible apply Ext.alloc) | (with_reducible apply Ext.drew) | (with_reducible apply Ext.drewN) | ((with_reducible refine Ext.setCell ?_ ?_ _); rotate_left; (focus (first | (simp; done) | (simp; omega) | omega))) | (with_reducible refine Ext.trans ?_ (by assumption))))⟩
theorem spec_prFilter_1 (xp xm xv xt : Int) (w : World) (h1 : 1 ≤ xp ∧ xp ≤ 99) (h3 : 0 ≤ xm ∧ xm ≤ 65535) (h4 : 0 ≤ xv ∧ xv ≤ 65535) (h5 : 1 ≤ xt ∧ xt ≤ 999) :
    Calls Tryd.prog 23 #[.agg #[.int .i64 xp, .int .i64 1, .int .i64 xm, .int .i64 xv, .int .i64 xt]] w fun e w' => e = .returned (.string (filT ⟨xp, 1, xm, xv, xt⟩)) ∧ Ext w w' := by
  obtain ⟨a0, a1⟩ := h1
  obtain ⟨c0, c1⟩ := h3
  obtain ⟨d0, d1⟩ := h4
  obtain ⟨e0, e1⟩ := h5
  have s1 := dec_size (n := xp) (by omega)
  have s2 := hexT_size d0 d1
  have s3 := hexT_size c0 c1
  have s4 := dec_size (n := xt) (by omega)
  have t0 : ¬ 9223372036854775807 < 7 + (dec xp).size := by omega
  have t1 : ¬ 9223372036854775807 < 7 + (dec xp).size + 1 := by omega
  have t2 : ¬ 9223372036854775807 < 7 + (dec xp).size + 1 + 4 := by omega
  have t3 : ¬ 9223372036854775807 < 7 + (dec xp).size + 1 + 4 + 1 := by omega
  have t4 : ¬ 9223372036854775807 < 7 + (dec xp).size + 1 + 4 + 1 + (hexT xv).size := by omega
  have t5 : ¬ 9223372036854775807 < 7 + (dec xp).size + 1 + 4 + 1 + (hexT xv).size + 3 := by omega
  have t6 : ¬ 9223372036854775807 < 7 + (dec xp).size + 1 + 4 + 1 + (hexT xv).size + 3 + (hexT xm).size := by omega
  have t7 : ¬ 9223372036854775807 < 7 + (dec xp).size + 1 + 4 + 1 + (hexT xv).size + 3 + (hexT xm).size + 4 := by omega
  have t8 : ¬ 9223372036854775807 < 7 + (dec xp).size + 1 + 4 + 1 + (hexT xv).size + 3 + (hexT xm).size + 4 + (dec xt).size := by omega
  have t9 : ¬ 9223372036854775807 < 7 + (dec xp).size + 1 + 4 + 1 + (hexT xv).size + 3 + (hexT xm).size + 4 + (dec xt).size + 1 := by omega
  have t10 : ¬ 9223372036854775807 < 7 + (dec xp).size + 5 := by omega
  have t11 : ¬ 9223372036854775807 < 7 + (dec xp).size + 5 + 1 := by omega
  have t12 : ¬ 9223372036854775807 < 7 + (dec xp).size + 5 + 1 + (hexT xv).size := by omega
  have t13 : ¬ 9223372036854775807 < 7 + (dec xp).size + 5 + 1 + (hexT xv).size + 3 := by omega
  have t14 : ¬ 9223372036854775807 < 7 + (dec xp).size + 5 + 1 + (hexT xv).size + 3 + (hexT xm).size := by omega
  have t15 : ¬ 9223372036854775807 < 7 + (dec xp).size + 5 + 1 + (hexT xv).size + 3 + (hexT xm).size + 4 := by omega
  have t16 : ¬ 9223372036854775807 < 7 + (dec xp).size + 5 + 1 + (hexT xv).size + 3 + (hexT xm).size + 4 + (dec xt).size := by omega
  have t17 : ¬ 9223372036854775807 < 7 + (dec xp).size + 5 + 1 + (hexT xv).size + 3 + (hexT xm).size + 4 + (dec xt).size + 1 := by omega
  have t18 : ¬ 9223372036854775807 < 7 + (dec xp).size + 6 := by omega
  have t19 : ¬ 9223372036854775807 < 7 + (dec xp).size + 6 + (hexT xv).size := by omega
  have t20 : ¬ 9223372036854775807 < 7 + (dec xp).size + 6 + (hexT xv).size + 3 := by omega
  have t21 : ¬ 9223372036854775807 < 7 + (dec xp).size + 6 + (hexT xv).size + 3 + (hexT xm).size := by omega
  have t22 : ¬ 9223372036854775807 < 7 + (dec xp).size + 6 + (hexT xv).size + 3 + (hexT xm).size + 4 := by omega
  have t23 : ¬ 9223372036854775807 < 7 + (dec xp).size + 6 + (hexT xv).size + 3 + (hexT xm).size + 4 + (dec xt).size := by omega
  have t24 : ¬ 9223372036854775807 < 7 + (dec xp).size + 6 + (hexT xv).size + 3 + (hexT xm).size + 4 + (dec xt).size + 1 := by omega
  have BX := Lib.hid (Blk.new w 32 #[.int .i64 xp, .int .i64 1, .int .i64 xm, .int .i64 xv, .int .i64 xt])
  have E0 := (Ext.refl w).alloc (.cells #[.int .i64 xp, .int .i64 1, .int .i64 xm, .int .i64 xv, .int .i64 xt] 32)
  have D0 := (Ext.refl (w.alloc (.cells #[.int .i64 xp, .int .i64 1, .int .i64 xm, .int .i64 xv, .int .i64 xt] 32))).drew
  obtain ⟨q0, q1, q2, q3, q4, q5⟩ := bcF (BX.out.ext D0)
  go_enter Tryd.func23, Tryd.ntmps23
  go_wp2_with fail
  go_region_held3 (fun w' => w'.cell? ⟨w.heap.size, 0, none⟩ = some (.int .i64 xp) ∧ w'.cell? ⟨w.heap.size, 1, none⟩ = some (.int .i64 1) ∧ w'.cell? ⟨w.heap.size, 2, none⟩ = some (.int .i64 xm) ∧ w'.cell? ⟨w.heap.size, 3, none⟩ = some (.int .i64 xv) ∧ w'.cell? ⟨w.heap.size, 4, none⟩ = some (.int .i64 xt)) (first | (with_reducible exact ⟨q0, q1, q2, q3, q4⟩) | (with_reducible exact ⟨q0, q1, q2, q3, q4, rr⟩) | go_keep) (first | (go_at_call 35; refine (spec_l1Num_any 10000000001 _ _ (by omega) (by omega) (by omega)).mono ?_; rintro e w2 ⟨rfl, F2⟩; have D2 := Ext.trans (by assumption) F2; obtain ⟨q0, q1, q2, q3, q4, q5⟩ := bcF (BX.out.ext D2); first | (replace rr := row_ext rr F2) | skip) | (go_at_call 39; refine (spec_prFields_any _).mono ?_; rintro e w2 ⟨b, rfl, ⟨r0, r1, r2, r3⟩, F2⟩; have D2 := Ext.trans (by assumption) F2; obtain ⟨q0, q1, q2, q3, q4, q5⟩ := bcF (BX.out.ext D2); have rr := r1; clear r0 r1 r2 r3; have e := shut_strong (S := (fun w' => w'.cell? ⟨w.heap.size, 0, none⟩ = some (.int .i64 xp) ∧ w'.cell? ⟨w.heap.size, 1, none⟩ = some (.int .i64 1) ∧ w'.cell? ⟨w.heap.size, 2, none⟩ = some (.int .i64 xm) ∧ w'.cell? ⟨w.heap.size, 3, none⟩ = some (.int .i64 xv) ∧ w'.cell? ⟨w.heap.size, 4, none⟩ = some (.int .i64 xt))) (S' := (fun w' => w'.cell? ⟨w.heap.size, 0, none⟩ = some (.int .i64 xp) ∧ w'.cell? ⟨w.heap.size, 1, none⟩ = some (.int .i64 1) ∧ w'.cell? ⟨w.heap.size, 2, none⟩ = some (.int .i64 xm) ∧ w'.cell? ⟨w.heap.size, 3, none⟩ = some (.int .i64 xv) ∧ w'.cell? ⟨w.heap.size, 4, none⟩ = some (.int .i64 xt) ∧ w'.cell? ⟨b, 1, none⟩ = some (.string ⟨#[100, 101, 115, 116]⟩))) (fun w' h => ⟨h.1, h.2.1, h.2.2.1, h.2.2.2.1, h.2.2.2.2.1⟩) ‹Shut _›; simp only [e] at *; clear e) | (go_at_call 40; refine (spec_nuHex_any _ _ (by omega) (by omega)).mono ?_; rintro e w2 ⟨rfl, F2⟩; have D2 := Ext.trans (by assumption) F2; obtain ⟨q0, q1, q2, q3, q4, q5⟩ := bcF (BX.out.ext D2); first | (replace rr := row_ext rr F2) | skip))
  go_wp2
  go_ret
  exact ⟨rfl, by (repeat (first | (with_reducible exact Ext.refl _) | (with_reducible assumption) | (with_reducible apply Ext.alloc) | (with_reducible apply Ext.drew) | (with_reducible apply Ext.drewN) | ((with_reducible refine Ext.setCell ?_ ?_ _); rotate_left; (focus (first | (simp; done) | (simp; omega) | omega))) | (with_reducible refine Ext.trans ?_ (by assumption))))⟩
theorem spec_prFilter_2 (xp xm xv xt : Int) (w : World) (h1 : 1 ≤ xp ∧ xp ≤ 99) (h3 : 0 ≤ xm ∧ xm ≤ 65535) (h4 : 0 ≤ xv ∧ xv ≤ 65535) (h5 : 1 ≤ xt ∧ xt ≤ 999) :
    Calls Tryd.prog 23 #[.agg #[.int .i64 xp, .int .i64 2, .int .i64 xm, .int .i64 xv, .int .i64 xt]] w fun e w' => e = .returned (.string (filT ⟨xp, 2, xm, xv, xt⟩)) ∧ Ext w w' := by
  obtain ⟨a0, a1⟩ := h1
  obtain ⟨c0, c1⟩ := h3
  obtain ⟨d0, d1⟩ := h4
  obtain ⟨e0, e1⟩ := h5
  have s1 := dec_size (n := xp) (by omega)
  have s2 := hexT_size d0 d1
  have s3 := hexT_size c0 c1
  have s4 := dec_size (n := xt) (by omega)
  have t0 : ¬ 9223372036854775807 < 7 + (dec xp).size := by omega
  have t1 : ¬ 9223372036854775807 < 7 + (dec xp).size + 1 := by omega
  have t2 : ¬ 9223372036854775807 < 7 + (dec xp).size + 1 + 4 := by omega
  have t3 : ¬ 9223372036854775807 < 7 + (dec xp).size + 1 + 4 + 1 := by omega
  have t4 : ¬ 9223372036854775807 < 7 + (dec xp).size + 1 + 4 + 1 + (hexT xv).size := by omega
  have t5 : ¬ 9223372036854775807 < 7 + (dec xp).size + 1 + 4 + 1 + (hexT xv).size + 3 := by omega
  have t6 : ¬ 9223372036854775807 < 7 + (dec xp).size + 1 + 4 + 1 + (hexT xv).size + 3 + (hexT xm).size := by omega
  have t7 : ¬ 9223372036854775807 < 7 + (dec xp).size + 1 + 4 + 1 + (hexT xv).size + 3 + (hexT xm).size + 4 := by omega
  have t8 : ¬ 9223372036854775807 < 7 + (dec xp).size + 1 + 4 + 1 + (hexT xv).size + 3 + (hexT xm).size + 4 + (dec xt).size := by omega
  have t9 : ¬ 9223372036854775807 < 7 + (dec xp).size + 1 + 4 + 1 + (hexT xv).size + 3 + (hexT xm).size + 4 + (dec xt).size + 1 := by omega
  have t10 : ¬ 9223372036854775807 < 7 + (dec xp).size + 5 := by omega
  have t11 : ¬ 9223372036854775807 < 7 + (dec xp).size + 5 + 1 := by omega
  have t12 : ¬ 9223372036854775807 < 7 + (dec xp).size + 5 + 1 + (hexT xv).size := by omega
  have t13 : ¬ 9223372036854775807 < 7 + (dec xp).size + 5 + 1 + (hexT xv).size + 3 := by omega
  have t14 : ¬ 9223372036854775807 < 7 + (dec xp).size + 5 + 1 + (hexT xv).size + 3 + (hexT xm).size := by omega
  have t15 : ¬ 9223372036854775807 < 7 + (dec xp).size + 5 + 1 + (hexT xv).size + 3 + (hexT xm).size + 4 := by omega
  have t16 : ¬ 9223372036854775807 < 7 + (dec xp).size + 5 + 1 + (hexT xv).size + 3 + (hexT xm).size + 4 + (dec xt).size := by omega
  have t17 : ¬ 9223372036854775807 < 7 + (dec xp).size + 5 + 1 + (hexT xv).size + 3 + (hexT xm).size + 4 + (dec xt).size + 1 := by omega
  have t18 : ¬ 9223372036854775807 < 7 + (dec xp).size + 6 := by omega
  have t19 : ¬ 9223372036854775807 < 7 + (dec xp).size + 6 + (hexT xv).size := by omega
  have t20 : ¬ 9223372036854775807 < 7 + (dec xp).size + 6 + (hexT xv).size + 3 := by omega
  have t21 : ¬ 9223372036854775807 < 7 + (dec xp).size + 6 + (hexT xv).size + 3 + (hexT xm).size := by omega
  have t22 : ¬ 9223372036854775807 < 7 + (dec xp).size + 6 + (hexT xv).size + 3 + (hexT xm).size + 4 := by omega
  have t23 : ¬ 9223372036854775807 < 7 + (dec xp).size + 6 + (hexT xv).size + 3 + (hexT xm).size + 4 + (dec xt).size := by omega
  have t24 : ¬ 9223372036854775807 < 7 + (dec xp).size + 6 + (hexT xv).size + 3 + (hexT xm).size + 4 + (dec xt).size + 1 := by omega
  have BX := Lib.hid (Blk.new w 32 #[.int .i64 xp, .int .i64 2, .int .i64 xm, .int .i64 xv, .int .i64 xt])
  have E0 := (Ext.refl w).alloc (.cells #[.int .i64 xp, .int .i64 2, .int .i64 xm, .int .i64 xv, .int .i64 xt] 32)
  have D0 := (Ext.refl (w.alloc (.cells #[.int .i64 xp, .int .i64 2, .int .i64 xm, .int .i64 xv, .int .i64 xt] 32))).drew
  obtain ⟨q0, q1, q2, q3, q4, q5⟩ := bcF (BX.out.ext D0)
  go_enter Tryd.func23, Tryd.ntmps23
  go_wp2_with fail
  go_region_held3 (fun w' => w'.cell? ⟨w.heap.size, 0, none⟩ = some (.int .i64 xp) ∧ w'.cell? ⟨w.heap.size, 1, none⟩ = some (.int .i64 2) ∧ w'.cell? ⟨w.heap.size, 2, none⟩ = some (.int .i64 xm) ∧ w'.cell? ⟨w.heap.size, 3, none⟩ = some (.int .i64 xv) ∧ w'.cell? ⟨w.heap.size, 4, none⟩ = some (.int .i64 xt)) (first | (with_reducible exact ⟨q0, q1, q2, q3, q4⟩) | (with_reducible exact ⟨q0, q1, q2, q3, q4, rr⟩) | go_keep) (first | (go_at_call 35; refine (spec_l1Num_any 10000000001 _ _ (by omega) (by omega) (by omega)).mono ?_; rintro e w2 ⟨rfl, F2⟩; have D2 := Ext.trans (by assumption) F2; obtain ⟨q0, q1, q2, q3, q4, q5⟩ := bcF (BX.out.ext D2); first | (replace rr := row_ext rr F2) | skip) | (go_at_call 39; refine (spec_prFields_any _).mono ?_; rintro e w2 ⟨b, rfl, ⟨r0, r1, r2, r3⟩, F2⟩; have D2 := Ext.trans (by assumption) F2; obtain ⟨q0, q1, q2, q3, q4, q5⟩ := bcF (BX.out.ext D2); have rr := r2; clear r0 r1 r2 r3; have e := shut_strong (S := (fun w' => w'.cell? ⟨w.heap.size, 0, none⟩ = some (.int .i64 xp) ∧ w'.cell? ⟨w.heap.size, 1, none⟩ = some (.int .i64 2) ∧ w'.cell? ⟨w.heap.size, 2, none⟩ = some (.int .i64 xm) ∧ w'.cell? ⟨w.heap.size, 3, none⟩ = some (.int .i64 xv) ∧ w'.cell? ⟨w.heap.size, 4, none⟩ = some (.int .i64 xt))) (S' := (fun w' => w'.cell? ⟨w.heap.size, 0, none⟩ = some (.int .i64 xp) ∧ w'.cell? ⟨w.heap.size, 1, none⟩ = some (.int .i64 2) ∧ w'.cell? ⟨w.heap.size, 2, none⟩ = some (.int .i64 xm) ∧ w'.cell? ⟨w.heap.size, 3, none⟩ = some (.int .i64 xv) ∧ w'.cell? ⟨w.heap.size, 4, none⟩ = some (.int .i64 xt) ∧ w'.cell? ⟨b, 2, none⟩ = some (.string ⟨#[112, 111, 114, 116]⟩))) (fun w' h => ⟨h.1, h.2.1, h.2.2.1, h.2.2.2.1, h.2.2.2.2.1⟩) ‹Shut _›; simp only [e] at *; clear e) | (go_at_call 40; refine (spec_nuHex_any _ _ (by omega) (by omega)).mono ?_; rintro e w2 ⟨rfl, F2⟩; have D2 := Ext.trans (by assumption) F2; obtain ⟨q0, q1, q2, q3, q4, q5⟩ := bcF (BX.out.ext D2); first | (replace rr := row_ext rr F2) | skip))
  go_wp2
  go_ret
  exact ⟨rfl, by (repeat (first | (with_reducible exact Ext.refl _) | (with_reducible assumption) | (with_reducible apply Ext.alloc) | (with_reducible apply Ext.drew) | (with_reducible apply Ext.drewN) | ((with_reducible refine Ext.setCell ?_ ?_ _); rotate_left; (focus (first | (simp; done) | (simp; omega) | omega))) | (with_reducible refine Ext.trans ?_ (by assumption))))⟩
theorem spec_prFilter_3 (xp xm xv xt : Int) (w : World) (h1 : 1 ≤ xp ∧ xp ≤ 99) (h3 : 0 ≤ xm ∧ xm ≤ 65535) (h4 : 0 ≤ xv ∧ xv ≤ 65535) (h5 : 1 ≤ xt ∧ xt ≤ 999) :
    Calls Tryd.prog 23 #[.agg #[.int .i64 xp, .int .i64 3, .int .i64 xm, .int .i64 xv, .int .i64 xt]] w fun e w' => e = .returned (.string (filT ⟨xp, 3, xm, xv, xt⟩)) ∧ Ext w w' := by
  obtain ⟨a0, a1⟩ := h1
  obtain ⟨c0, c1⟩ := h3
  obtain ⟨d0, d1⟩ := h4
  obtain ⟨e0, e1⟩ := h5
  have s1 := dec_size (n := xp) (by omega)
  have s2 := hexT_size d0 d1
  have s3 := hexT_size c0 c1
  have s4 := dec_size (n := xt) (by omega)
  have t0 : ¬ 9223372036854775807 < 7 + (dec xp).size := by omega
  have t1 : ¬ 9223372036854775807 < 7 + (dec xp).size + 1 := by omega
  have t2 : ¬ 9223372036854775807 < 7 + (dec xp).size + 1 + 4 := by omega
  have t3 : ¬ 9223372036854775807 < 7 + (dec xp).size + 1 + 4 + 1 := by omega
  have t4 : ¬ 9223372036854775807 < 7 + (dec xp).size + 1 + 4 + 1 + (hexT xv).size := by omega
  have t5 : ¬ 9223372036854775807 < 7 + (dec xp).size + 1 + 4 + 1 + (hexT xv).size + 3 := by omega
  have t6 : ¬ 9223372036854775807 < 7 + (dec xp).size + 1 + 4 + 1 + (hexT xv).size + 3 + (hexT xm).size := by omega
  have t7 : ¬ 9223372036854775807 < 7 + (dec xp).size + 1 + 4 + 1 + (hexT xv).size + 3 + (hexT xm).size + 4 := by omega
  have t8 : ¬ 9223372036854775807 < 7 + (dec xp).size + 1 + 4 + 1 + (hexT xv).size + 3 + (hexT xm).size + 4 + (dec xt).size := by omega
  have t9 : ¬ 9223372036854775807 < 7 + (dec xp).size + 1 + 4 + 1 + (hexT xv).size + 3 + (hexT xm).size + 4 + (dec xt).size + 1 := by omega
  have t10 : ¬ 9223372036854775807 < 7 + (dec xp).size + 5 := by omega
  have t11 : ¬ 9223372036854775807 < 7 + (dec xp).size + 5 + 1 := by omega
  have t12 : ¬ 9223372036854775807 < 7 + (dec xp).size + 5 + 1 + (hexT xv).size := by omega
  have t13 : ¬ 9223372036854775807 < 7 + (dec xp).size + 5 + 1 + (hexT xv).size + 3 := by omega
  have t14 : ¬ 9223372036854775807 < 7 + (dec xp).size + 5 + 1 + (hexT xv).size + 3 + (hexT xm).size := by omega
  have t15 : ¬ 9223372036854775807 < 7 + (dec xp).size + 5 + 1 + (hexT xv).size + 3 + (hexT xm).size + 4 := by omega
  have t16 : ¬ 9223372036854775807 < 7 + (dec xp).size + 5 + 1 + (hexT xv).size + 3 + (hexT xm).size + 4 + (dec xt).size := by omega
  have t17 : ¬ 9223372036854775807 < 7 + (dec xp).size + 5 + 1 + (hexT xv).size + 3 + (hexT xm).size + 4 + (dec xt).size + 1 := by omega
  have t18 : ¬ 9223372036854775807 < 7 + (dec xp).size + 6 := by omega
  have t19 : ¬ 9223372036854775807 < 7 + (dec xp).size + 6 + (hexT xv).size := by omega
  have t20 : ¬ 9223372036854775807 < 7 + (dec xp).size + 6 + (hexT xv).size + 3 := by omega
  have t21 : ¬ 9223372036854775807 < 7 + (dec xp).size + 6 + (hexT xv).size + 3 + (hexT xm).size := by omega
  have t22 : ¬ 9223372036854775807 < 7 + (dec xp).size + 6 + (hexT xv).size + 3 + (hexT xm).size + 4 := by omega
  have t23 : ¬ 9223372036854775807 < 7 + (dec xp).size + 6 + (hexT xv).size + 3 + (hexT xm).size + 4 + (dec xt).size := by omega
  have t24 : ¬ 9223372036854775807 < 7 + (dec xp).size + 6 + (hexT xv).size + 3 + (hexT xm).size + 4 + (dec xt).size + 1 := by omega
  have BX := Lib.hid (Blk.new w 32 #[.int .i64 xp, .int .i64 3, .int .i64 xm, .int .i64 xv, .int .i64 xt])
  have E0 := (Ext.refl w).alloc (.cells #[.int .i64 xp, .int .i64 3, .int .i64 xm, .int .i64 xv, .int .i64 xt] 32)
  have D0 := (Ext.refl (w.alloc (.cells #[.int .i64 xp, .int .i64 3, .int .i64 xm, .int .i64 xv, .int .i64 xt] 32))).drew
  obtain ⟨q0, q1, q2, q3, q4, q5⟩ := bcF (BX.out.ext D0)
  go_enter Tryd.func23, Tryd.ntmps23
  go_wp2_with fail
  go_region_held3 (fun w' => w'.cell? ⟨w.heap.size, 0, none⟩ = some (.int .i64 xp) ∧ w'.cell? ⟨w.heap.size, 1, none⟩ = some (.int .i64 3) ∧ w'.cell? ⟨w.heap.size, 2, none⟩ = some (.int .i64 xm) ∧ w'.cell? ⟨w.heap.size, 3, none⟩ = some (.int .i64 xv) ∧ w'.cell? ⟨w.heap.size, 4, none⟩ = some (.int .i64 xt)) (first | (with_reducible exact ⟨q0, q1, q2, q3, q4⟩) | (with_reducible exact ⟨q0, q1, q2, q3, q4, rr⟩) | go_keep) (first | (go_at_call 35; refine (spec_l1Num_any 10000000001 _ _ (by omega) (by omega) (by omega)).mono ?_; rintro e w2 ⟨rfl, F2⟩; have D2 := Ext.trans (by assumption) F2; obtain ⟨q0, q1, q2, q3, q4, q5⟩ := bcF (BX.out.ext D2); first | (replace rr := row_ext rr F2) | skip) | (go_at_call 39; refine (spec_prFields_any _).mono ?_; rintro e w2 ⟨b, rfl, ⟨r0, r1, r2, r3⟩, F2⟩; have D2 := Ext.trans (by assumption) F2; obtain ⟨q0, q1, q2, q3, q4, q5⟩ := bcF (BX.out.ext D2); have rr := r3; clear r0 r1 r2 r3; have e := shut_strong (S := (fun w' => w'.cell? ⟨w.heap.size, 0, none⟩ = some (.int .i64 xp) ∧ w'.cell? ⟨w.heap.size, 1, none⟩ = some (.int .i64 3) ∧ w'.cell? ⟨w.heap.size, 2, none⟩ = some (.int .i64 xm) ∧ w'.cell? ⟨w.heap.size, 3, none⟩ = some (.int .i64 xv) ∧ w'.cell? ⟨w.heap.size, 4, none⟩ = some (.int .i64 xt))) (S' := (fun w' => w'.cell? ⟨w.heap.size, 0, none⟩ = some (.int .i64 xp) ∧ w'.cell? ⟨w.heap.size, 1, none⟩ = some (.int .i64 3) ∧ w'.cell? ⟨w.heap.size, 2, none⟩ = some (.int .i64 xm) ∧ w'.cell? ⟨w.heap.size, 3, none⟩ = some (.int .i64 xv) ∧ w'.cell? ⟨w.heap.size, 4, none⟩ = some (.int .i64 xt) ∧ w'.cell? ⟨b, 3, none⟩ = some (.string ⟨#[109, 97, 114, 107]⟩))) (fun w' h => ⟨h.1, h.2.1, h.2.2.1, h.2.2.2.1, h.2.2.2.2.1⟩) ‹Shut _›; simp only [e] at *; clear e) | (go_at_call 40; refine (spec_nuHex_any _ _ (by omega) (by omega)).mono ?_; rintro e w2 ⟨rfl, F2⟩; have D2 := Ext.trans (by assumption) F2; obtain ⟨q0, q1, q2, q3, q4, q5⟩ := bcF (BX.out.ext D2); first | (replace rr := row_ext rr F2) | skip))
  go_wp2
  go_ret
  exact ⟨rfl, by (repeat (first | (with_reducible exact Ext.refl _) | (with_reducible assumption) | (with_reducible apply Ext.alloc) | (with_reducible apply Ext.drew) | (with_reducible apply Ext.drewN) | ((with_reducible refine Ext.setCell ?_ ?_ _); rotate_left; (focus (first | (simp; done) | (simp; omega) | omega))) | (with_reducible refine Ext.trans ?_ (by assumption))))⟩
theorem spec_prFilter_any (x : Flt) (w : World) (h : filOk x = true) :
    Calls Tryd.prog 23 #[fltW x] w fun e w' => e = .returned (.string (filT x)) ∧ Ext w w' := by
  obtain ⟨h1, ⟨b0, b1⟩, h3, h4, h5⟩ := fil_parts h
  clear h
  obtain ⟨xp, xf, xm, xv, xt⟩ := x
  dsimp only at h1 b0 b1 h3 h4 h5
  have hf : xf = 0 ∨ xf = 1 ∨ xf = 2 ∨ xf = 3 := by omega
  rcases hf with rfl | rfl | rfl | rfl
  · exact spec_prFilter_0 xp xm xv xt w h1 h3 h4 h5
  · exact spec_prFilter_1 xp xm xv xt w h1 h3 h4 h5
  · exact spec_prFilter_2 xp xm xv xt w h1 h3 h4 h5
  · exact spec_prFilter_3 xp xm xv xt w h1 h3 h4 h5
theorem impl_filterLine_0 (xp xm xv xt : Int) (w : World) (h1 : 1 ≤ xp ∧ xp ≤ 99) (h3 : 0 ≤ xm ∧ xm ≤ 65535) (h4 : 0 ≤ xv ∧ xv ≤ 65535) (h5 : 1 ≤ xt ∧ xt ≤ 999) (hk : PowTab w) :
    Calls Tryd.prog 25 #[.agg #[.int .i64 xp, .int .i64 0, .int .i64 xm, .int .i64 xv, .int .i64 xt]] w fun e w' => e = .returned (.string (filT ⟨xp, 0, xm, xv, xt⟩)) ∧ Ext w w' := by
  obtain ⟨a0, a1⟩ := h1
  obtain ⟨c0, c1⟩ := h3
  obtain ⟨d0, d1⟩ := h4
  obtain ⟨e0, e1⟩ := h5
  have s1 := dec_size (n := xp) (by omega)
  have s2 := hexT_size d0 d1
  have s3 := hexT_size c0 c1
  have s4 := dec_size (n := xt) (by omega)
  have t0 : ¬ 9223372036854775807 < 7 + (dec xp).size := by omega
  have t1 : ¬ 9223372036854775807 < 7 + (dec xp).size + 1 := by omega
  have t2 : ¬ 9223372036854775807 < 7 + (dec xp).size + 1 + 6 := by omega
  have t3 : ¬ 9223372036854775807 < 7 + (dec xp).size + 1 + 6 + 1 := by omega
  have t4 : ¬ 9223372036854775807 < 7 + (dec xp).size + 1 + 6 + 1 + (hexT xv).size := by omega
  have t5 : ¬ 9223372036854775807 < 7 + (dec xp).size + 1 + 6 + 1 + (hexT xv).size + 3 := by omega
  have t6 : ¬ 9223372036854775807 < 7 + (dec xp).size + 1 + 6 + 1 + (hexT xv).size + 3 + (hexT xm).size := by omega
  have t7 : ¬ 9223372036854775807 < 7 + (dec xp).size + 1 + 6 + 1 + (hexT xv).size + 3 + (hexT xm).size + 4 := by omega
  have t8 : ¬ 9223372036854775807 < 7 + (dec xp).size + 1 + 6 + 1 + (hexT xv).size + 3 + (hexT xm).size + 4 + (dec xt).size := by omega
  have t9 : ¬ 9223372036854775807 < 7 + (dec xp).size + 1 + 6 + 1 + (hexT xv).size + 3 + (hexT xm).size + 4 + (dec xt).size + 1 := by omega
  have t10 : ¬ 9223372036854775807 < 7 + (dec xp).size + 7 := by omega
  have t11 : ¬ 9223372036854775807 < 7 + (dec xp).size + 7 + 1 := by omega
  have t12 : ¬ 9223372036854775807 < 7 + (dec xp).size + 7 + 1 + (hexT xv).size := by omega
  have t13 : ¬ 9223372036854775807 < 7 + (dec xp).size + 7 + 1 + (hexT xv).size + 3 := by omega
  have t14 : ¬ 9223372036854775807 < 7 + (dec xp).size + 7 + 1 + (hexT xv).size + 3 + (hexT xm).size := by omega
  have t15 : ¬ 9223372036854775807 < 7 + (dec xp).size + 7 + 1 + (hexT xv).size + 3 + (hexT xm).size + 4 := by omega
  have t16 : ¬ 9223372036854775807 < 7 + (dec xp).size + 7 + 1 + (hexT xv).size + 3 + (hexT xm).size + 4 + (dec xt).size := by omega
  have t17 : ¬ 9223372036854775807 < 7 + (dec xp).size + 7 + 1 + (hexT xv).size + 3 + (hexT xm).size + 4 + (dec xt).size + 1 := by omega
  have t18 : ¬ 9223372036854775807 < 7 + (dec xp).size + 8 := by omega
  have t19 : ¬ 9223372036854775807 < 7 + (dec xp).size + 8 + (hexT xv).size := by omega
  have t20 : ¬ 9223372036854775807 < 7 + (dec xp).size + 8 + (hexT xv).size + 3 := by omega
  have t21 : ¬ 9223372036854775807 < 7 + (dec xp).size + 8 + (hexT xv).size + 3 + (hexT xm).size := by omega
  have t22 : ¬ 9223372036854775807 < 7 + (dec xp).size + 8 + (hexT xv).size + 3 + (hexT xm).size + 4 := by omega
  have t23 : ¬ 9223372036854775807 < 7 + (dec xp).size + 8 + (hexT xv).size + 3 + (hexT xm).size + 4 + (dec xt).size := by omega
  have t24 : ¬ 9223372036854775807 < 7 + (dec xp).size + 8 + (hexT xv).size + 3 + (hexT xm).size + 4 + (dec xt).size + 1 := by omega
  have BX := Lib.hid (Blk.new w 32 #[.int .i64 xp, .int .i64 0, .int .i64 xm, .int .i64 xv, .int .i64 xt])
  have E0 := (Ext.refl w).alloc (.cells #[.int .i64 xp, .int .i64 0, .int .i64 xm, .int .i64 xv, .int .i64 xt] 32)
  have HK := Lib.hid (hk.ext E0)
  clear hk
  go_enter Tryd.func25, Tryd.ntmps25
  go_wp2_with fail
  refine (impl_HexText_any _ _ d0 d1).mono ?_
  rintro e w1 ⟨rfl, F1⟩
  obtain ⟨x0, x1, x2, x3, x4, x5⟩ := bcF (BX.out.ext F1)
  go_wp2_with fail
  refine (impl_HexText_any _ _ c0 c1).mono ?_
  rintro e w3 ⟨rfl, F3⟩
  have G3 := F1.trans F3
  have D3 := G3.drew
  clear x0 x1 x2 x3 x4 x5
  obtain ⟨q0, q1, q2, q3, q4, q5⟩ := bcF (BX.out.ext D3)
  go_wp2_with fail
  go_region_held3 (fun w' => w'.cell? ⟨w.heap.size, 0, none⟩ = some (.int .i64 xp) ∧ w'.cell? ⟨w.heap.size, 1, none⟩ = some (.int .i64 0) ∧ w'.cell? ⟨w.heap.size, 2, none⟩ = some (.int .i64 xm) ∧ w'.cell? ⟨w.heap.size, 3, none⟩ = some (.int .i64 xv) ∧ w'.cell? ⟨w.heap.size, 4, none⟩ = some (.int .i64 xt)) (first | (with_reducible exact ⟨q0, q1, q2, q3, q4⟩) | (with_reducible exact ⟨q0, q1, q2, q3, q4, rr⟩) | go_keep) (first | (go_at_call 37; refine (strconv_Itoa_any _ _ (by omega) (by omega) (HK.out.ext (by assumption))).mono ?_; rintro e w2 ⟨rfl, F2⟩; have D2 := Ext.trans (by assumption) F2; obtain ⟨q0, q1, q2, q3, q4, q5⟩ := bcF (BX.out.ext D2); first | (replace rr := row_ext rr F2) | skip) | (go_at_call 42; refine (impl_fieldNames_any _).mono ?_; rintro e w2 ⟨b, rfl, ⟨r0, r1, r2, r3⟩, F2⟩; have D2 := Ext.trans (by assumption) F2; obtain ⟨q0, q1, q2, q3, q4, q5⟩ := bcF (BX.out.ext D2); have rr := r0; clear r0 r1 r2 r3; have e := shut_strong (S := (fun w' => w'.cell? ⟨w.heap.size, 0, none⟩ = some (.int .i64 xp) ∧ w'.cell? ⟨w.heap.size, 1, none⟩ = some (.int .i64 0) ∧ w'.cell? ⟨w.heap.size, 2, none⟩ = some (.int .i64 xm) ∧ w'.cell? ⟨w.heap.size, 3, none⟩ = some (.int .i64 xv) ∧ w'.cell? ⟨w.heap.size, 4, none⟩ = some (.int .i64 xt))) (S' := (fun w' => w'.cell? ⟨w.heap.size, 0, none⟩ = some (.int .i64 xp) ∧ w'.cell? ⟨w.heap.size, 1, none⟩ = some (.int .i64 0) ∧ w'.cell? ⟨w.heap.size, 2, none⟩ = some (.int .i64 xm) ∧ w'.cell? ⟨w.heap.size, 3, none⟩ = some (.int .i64 xv) ∧ w'.cell? ⟨w.heap.size, 4, none⟩ = some (.int .i64 xt) ∧ w'.cell? ⟨b, 0, none⟩ = some (.string ⟨#[115, 111, 117, 114, 99, 101]⟩))) (fun w' h => ⟨h.1, h.2.1, h.2.2.1, h.2.2.2.1, h.2.2.2.2.1⟩) ‹Shut _›; simp only [e] at *; clear e))
  go_wp2
  go_ret
  exact ⟨rfl, by (repeat (first | (with_reducible exact Ext.refl _) | (with_reducible assumption) | (with_reducible apply Ext.alloc) | (with_reducible apply Ext.drew) | (with_reducible apply Ext.drewN) | ((with_reducible refine Ext.setCell ?_ ?_ _); rotate_left; (focus (first | (simp; done) | (simp; omega) | omega))) | (with_reducible refine Ext.trans ?_ (by assumption))))⟩
theorem impl_filterLine_1 (xp xm xv xt : Int) (w : World) (h1 : 1 ≤ xp ∧ xp ≤ 99) (h3 : 0 ≤ xm ∧ xm ≤ 65535) (h4 : 0 ≤ xv ∧ xv ≤ 65535) (h5 : 1 ≤ xt ∧ xt ≤ 999) (hk : PowTab w) :
    Calls Tryd.prog 25 #[.agg #[.int .i64 xp, .int .i64 1, .int .i64 xm, .int .i64 xv, .int .i64 xt]] w fun e w' => e = .returned (.string (filT ⟨xp, 1, xm, xv, xt⟩)) ∧ Ext w w' := by
  obtain ⟨a0, a1⟩ := h1
  obtain ⟨c0, c1⟩ := h3
  obtain ⟨d0, d1⟩ := h4
  obtain ⟨e0, e1⟩ := h5
  have s1 := dec_size (n := xp) (by omega)
  have s2 := hexT_size d0 d1
  have s3 := hexT_size c0 c1
  have s4 := dec_size (n := xt) (by omega)
  have t0 : ¬ 9223372036854775807 < 7 + (dec xp).size := by omega
  have t1 : ¬ 9223372036854775807 < 7 + (dec xp).size + 1 := by omega
  have t2 : ¬ 9223372036854775807 < 7 + (dec xp).size + 1 + 4 := by omega
  have t3 : ¬ 9223372036854775807 < 7 + (dec xp).size + 1 + 4 + 1 := by omega
  have t4 : ¬ 9223372036854775807 < 7 + (dec xp).size + 1 + 4 + 1 + (hexT xv).size := by omega
  have t5 : ¬ 9223372036854775807 < 7 + (dec xp).size + 1 + 4 + 1 + (hexT xv).size + 3 := by omega
  have t6 : ¬ 9223372036854775807 < 7 + (dec xp).size + 1 + 4 + 1 + (hexT xv).size + 3 + (hexT xm).size := by omega
  have t7 : ¬ 9223372036854775807 < 7 + (dec xp).size + 1 + 4 + 1 + (hexT xv).size + 3 + (hexT xm).size + 4 := by omega
  have t8 : ¬ 9223372036854775807 < 7 + (dec xp).size + 1 + 4 + 1 + (hexT xv).size + 3 + (hexT xm).size + 4 + (dec xt).size := by omega
  have t9 : ¬ 9223372036854775807 < 7 + (dec xp).size + 1 + 4 + 1 + (hexT xv).size + 3 + (hexT xm).size + 4 + (dec xt).size + 1 := by omega
  have t10 : ¬ 9223372036854775807 < 7 + (dec xp).size + 5 := by omega
  have t11 : ¬ 9223372036854775807 < 7 + (dec xp).size + 5 + 1 := by omega
  have t12 : ¬ 9223372036854775807 < 7 + (dec xp).size + 5 + 1 + (hexT xv).size := by omega
  have t13 : ¬ 9223372036854775807 < 7 + (dec xp).size + 5 + 1 + (hexT xv).size + 3 := by omega
  have t14 : ¬ 9223372036854775807 < 7 + (dec xp).size + 5 + 1 + (hexT xv).size + 3 + (hexT xm).size := by omega
  have t15 : ¬ 9223372036854775807 < 7 + (dec xp).size + 5 + 1 + (hexT xv).size + 3 + (hexT xm).size + 4 := by omega
  have t16 : ¬ 9223372036854775807 < 7 + (dec xp).size + 5 + 1 + (hexT xv).size + 3 + (hexT xm).size + 4 + (dec xt).size := by omega
  have t17 : ¬ 9223372036854775807 < 7 + (dec xp).size + 5 + 1 + (hexT xv).size + 3 + (hexT xm).size + 4 + (dec xt).size + 1 := by omega
  have t18 : ¬ 9223372036854775807 < 7 + (dec xp).size + 6 := by omega
  have t19 : ¬ 9223372036854775807 < 7 + (dec xp).size + 6 + (hexT xv).size := by omega
  have t20 : ¬ 9223372036854775807 < 7 + (dec xp).size + 6 + (hexT xv).size + 3 := by omega
  have t21 : ¬ 9223372036854775807 < 7 + (dec xp).size + 6 + (hexT xv).size + 3 + (hexT xm).size := by omega
  have t22 : ¬ 9223372036854775807 < 7 + (dec xp).size + 6 + (hexT xv).size + 3 + (hexT xm).size + 4 := by omega
  have t23 : ¬ 9223372036854775807 < 7 + (dec xp).size + 6 + (hexT xv).size + 3 + (hexT xm).size + 4 + (dec xt).size := by omega
  have t24 : ¬ 9223372036854775807 < 7 + (dec xp).size + 6 + (hexT xv).size + 3 + (hexT xm).size + 4 + (dec xt).size + 1 := by omega
  have BX := Lib.hid (Blk.new w 32 #[.int .i64 xp, .int .i64 1, .int .i64 xm, .int .i64 xv, .int .i64 xt])
  have E0 := (Ext.refl w).alloc (.cells #[.int .i64 xp, .int .i64 1, .int .i64 xm, .int .i64 xv, .int .i64 xt] 32)
  have HK := Lib.hid (hk.ext E0)
  clear hk
  go_enter Tryd.func25, Tryd.ntmps25
  go_wp2_with fail
  refine (impl_HexText_any _ _ d0 d1).mono ?_
  rintro e w1 ⟨rfl, F1⟩
  obtain ⟨x0, x1, x2, x3, x4, x5⟩ := bcF (BX.out.ext F1)
  go_wp2_with fail
  refine (impl_HexText_any _ _ c0 c1).mono ?_
  rintro e w3 ⟨rfl, F3⟩
  have G3 := F1.trans F3
  have D3 := G3.drew
  clear x0 x1 x2 x3 x4 x5
  obtain ⟨q0, q1, q2, q3, q4, q5⟩ := bcF (BX.out.ext D3)
  go_wp2_with fail
  go_region_held3 (fun w' => w'.cell? ⟨w.heap.size, 0, none⟩ = some (.int .i64 xp) ∧ w'.cell? ⟨w.heap.size, 1, none⟩ = some (.int .i64 1) ∧ w'.cell? ⟨w.heap.size, 2, none⟩ = some (.int .i64 xm) ∧ w'.cell? ⟨w.heap.size, 3, none⟩ = some (.int .i64 xv) ∧ w'.cell? ⟨w.heap.size, 4, none⟩ = some (.int .i64 xt)) (first | (with_reducible exact ⟨q0, q1, q2, q3, q4⟩) | (with_reducible exact ⟨q0, q1, q2, q3, q4, rr⟩) | go_keep) (first | (go_at_call 37; refine (strconv_Itoa_any _ _ (by omega) (by omega) (HK.out.ext (by assumption))).mono ?_; rintro e w2 ⟨rfl, F2⟩; have D2 := Ext.trans (by assumption) F2; obtain ⟨q0, q1, q2, q3, q4, q5⟩ := bcF (BX.out.ext D2); first | (replace rr := row_ext rr F2) | skip) | (go_at_call 42; refine (impl_fieldNames_any _).mono ?_; rintro e w2 ⟨b, rfl, ⟨r0, r1, r2, r3⟩, F2⟩; have D2 := Ext.trans (by assumption) F2; obtain ⟨q0, q1, q2, q3, q4, q5⟩ := bcF (BX.out.ext D2); have rr := r1; clear r0 r1 r2 r3; have e := shut_strong (S := (fun w' => w'.cell? ⟨w.heap.size, 0, none⟩ = some (.int .i64 xp) ∧ w'.cell? ⟨w.heap.size, 1, none⟩ = some (.int .i64 1) ∧ w'.cell? ⟨w.heap.size, 2, none⟩ = some (.int .i64 xm) ∧ w'.cell? ⟨w.heap.size, 3, none⟩ = some (.int .i64 xv) ∧ w'.cell? ⟨w.heap.size, 4, none⟩ = some (.int .i64 xt))) (S' := (fun w' => w'.cell? ⟨w.heap.size, 0, none⟩ = some (.int .i64 xp) ∧ w'.cell? ⟨w.heap.size, 1, none⟩ = some (.int .i64 1) ∧ w'.cell? ⟨w.heap.size, 2, none⟩ = some (.int .i64 xm) ∧ w'.cell? ⟨w.heap.size, 3, none⟩ = some (.int .i64 xv) ∧ w'.cell? ⟨w.heap.size, 4, none⟩ = some (.int .i64 xt) ∧ w'.cell? ⟨b, 1, none⟩ = some (.string ⟨#[100, 101, 115, 116]⟩))) (fun w' h => ⟨h.1, h.2.1, h.2.2.1, h.2.2.2.1, h.2.2.2.2.1⟩) ‹Shut _›; simp only [e] at *; clear e))
  go_wp2
  go_ret
  exact ⟨rfl, by (repeat (first | (with_reducible exact Ext.refl _) | (with_reducible assumption) | (with_reducible apply Ext.alloc) | (with_reducible apply Ext.drew) | (with_reducible apply Ext.drewN) | ((with_reducible refine Ext.setCell ?_ ?_ _); rotate_left; (focus (first | (simp; done) | (simp; omega) | omega))) | (with_reducible refine Ext.trans ?_ (by assumption))))⟩
theorem impl_filterLine_2 (xp xm xv xt : Int) (w : World) (h1 : 1 ≤ xp ∧ xp ≤ 99) (h3 : 0 ≤ xm ∧ xm ≤ 65535) (h4 : 0 ≤ xv ∧ xv ≤ 65535) (h5 : 1 ≤ xt ∧ xt ≤ 999) (hk : PowTab w) :
    Calls Tryd.prog 25 #[.agg #[.int .i64 xp, .int .i64 2, .int .i64 xm, .int .i64 xv, .int .i64 xt]] w fun e w' => e = .returned (.string (filT ⟨xp, 2, xm, xv, xt⟩)) ∧ Ext w w' := by
  obtain ⟨a0, a1⟩ := h1
  obtain ⟨c0, c1⟩ := h3
  obtain ⟨d0, d1⟩ := h4
  obtain ⟨e0, e1⟩ := h5
  have s1 := dec_size (n := xp) (by omega)
  have s2 := hexT_size d0 d1
  have s3 := hexT_size c0 c1
  have s4 := dec_size (n := xt) (by omega)
  have t0 : ¬ 9223372036854775807 < 7 + (dec xp).size := by omega
  have t1 : ¬ 9223372036854775807 < 7 + (dec xp).size + 1 := by omega
  have t2 : ¬ 9223372036854775807 < 7 + (dec xp).size + 1 + 4 := by omega
  have t3 : ¬ 9223372036854775807 < 7 + (dec xp).size + 1 + 4 + 1 := by omega
  have t4 : ¬ 9223372036854775807 < 7 + (dec xp).size + 1 + 4 + 1 + (hexT xv).size := by omega
  have t5 : ¬ 9223372036854775807 < 7 + (dec xp).size + 1 + 4 + 1 + (hexT xv).size + 3 := by omega
  have t6 : ¬ 9223372036854775807 < 7 + (dec xp).size + 1 + 4 + 1 + (hexT xv).size + 3 + (hexT xm).size := by omega
  have t7 : ¬ 9223372036854775807 < 7 + (dec xp).size + 1 + 4 + 1 + (hexT xv).size + 3 + (hexT xm).size + 4 := by omega
  have t8 : ¬ 9223372036854775807 < 7 + (dec xp).size + 1 + 4 + 1 + (hexT xv).size + 3 + (hexT xm).size + 4 + (dec xt).size := by omega
  have t9 : ¬ 9223372036854775807 < 7 + (dec xp).size + 1 + 4 + 1 + (hexT xv).size + 3 + (hexT xm).size + 4 + (dec xt).size + 1 := by omega
  have t10 : ¬ 9223372036854775807 < 7 + (dec xp).size + 5 := by omega
  have t11 : ¬ 9223372036854775807 < 7 + (dec xp).size + 5 + 1 := by omega
  have t12 : ¬ 9223372036854775807 < 7 + (dec xp).size + 5 + 1 + (hexT xv).size := by omega
  have t13 : ¬ 9223372036854775807 < 7 + (dec xp).size + 5 + 1 + (hexT xv).size + 3 := by omega
  have t14 : ¬ 9223372036854775807 < 7 + (dec xp).size + 5 + 1 + (hexT xv).size + 3 + (hexT xm).size := by omega
  have t15 : ¬ 9223372036854775807 < 7 + (dec xp).size + 5 + 1 + (hexT xv).size + 3 + (hexT xm).size + 4 := by omega
  have t16 : ¬ 9223372036854775807 < 7 + (dec xp).size + 5 + 1 + (hexT xv).size + 3 + (hexT xm).size + 4 + (dec xt).size := by omega
  have t17 : ¬ 9223372036854775807 < 7 + (dec xp).size + 5 + 1 + (hexT xv).size + 3 + (hexT xm).size + 4 + (dec xt).size + 1 := by omega
  have t18 : ¬ 9223372036854775807 < 7 + (dec xp).size + 6 := by omega
  have t19 : ¬ 9223372036854775807 < 7 + (dec xp).size + 6 + (hexT xv).size := by omega
  have t20 : ¬ 9223372036854775807 < 7 + (dec xp).size + 6 + (hexT xv).size + 3 := by omega
  have t21 : ¬ 9223372036854775807 < 7 + (dec xp).size + 6 + (hexT xv).size + 3 + (hexT xm).size := by omega
  have t22 : ¬ 9223372036854775807 < 7 + (dec xp).size + 6 + (hexT xv).size + 3 + (hexT xm).size + 4 := by omega
  have t23 : ¬ 9223372036854775807 < 7 + (dec xp).size + 6 + (hexT xv).size + 3 + (hexT xm).size + 4 + (dec xt).size := by omega
  have t24 : ¬ 9223372036854775807 < 7 + (dec xp).size + 6 + (hexT xv).size + 3 + (hexT xm).size + 4 + (dec xt).size + 1 := by omega
  have BX := Lib.hid (Blk.new w 32 #[.int .i64 xp, .int .i64 2, .int .i64 xm, .int .i64 xv, .int .i64 xt])
  have E0 := (Ext.refl w).alloc (.cells #[.int .i64 xp, .int .i64 2, .int .i64 xm, .int .i64 xv, .int .i64 xt] 32)
  have HK := Lib.hid (hk.ext E0)
  clear hk
  go_enter Tryd.func25, Tryd.ntmps25
  go_wp2_with fail
  refine (impl_HexText_any _ _ d0 d1).mono ?_
  rintro e w1 ⟨rfl, F1⟩
  obtain ⟨x0, x1, x2, x3, x4, x5⟩ := bcF (BX.out.ext F1)
  go_wp2_with fail
  refine (impl_HexText_any _ _ c0 c1).mono ?_
  rintro e w3 ⟨rfl, F3⟩
  have G3 := F1.trans F3
  have D3 := G3.drew
  clear x0 x1 x2 x3 x4 x5
  obtain ⟨q0, q1, q2, q3, q4, q5⟩ := bcF (BX.out.ext D3)
  go_wp2_with fail
  go_region_held3 (fun w' => w'.cell? ⟨w.heap.size, 0, none⟩ = some (.int .i64 xp) ∧ w'.cell? ⟨w.heap.size, 1, none⟩ = some (.int .i64 2) ∧ w'.cell? ⟨w.heap.size, 2, none⟩ = some (.int .i64 xm) ∧ w'.cell? ⟨w.heap.size, 3, none⟩ = some (.int .i64 xv) ∧ w'.cell? ⟨w.heap.size, 4, none⟩ = some (.int .i64 xt)) (first | (with_reducible exact ⟨q0, q1, q2, q3, q4⟩) | (with_reducible exact ⟨q0, q1, q2, q3, q4, rr⟩) | go_keep) (first | (go_at_call 37; refine (strconv_Itoa_any _ _ (by omega) (by omega) (HK.out.ext (by assumption))).mono ?_; rintro e w2 ⟨rfl, F2⟩; have D2 := Ext.trans (by assumption) F2; obtain ⟨q0, q1, q2, q3, q4, q5⟩ := bcF (BX.out.ext D2); first | (replace rr := row_ext rr F2) | skip) | (go_at_call 42; refine (impl_fieldNames_any _).mono ?_; rintro e w2 ⟨b, rfl, ⟨r0, r1, r2, r3⟩, F2⟩; have D2 := Ext.trans (by assumption) F2; obtain ⟨q0, q1, q2, q3, q4, q5⟩ := bcF (BX.out.ext D2); have rr := r2; clear r0 r1 r2 r3; have e := shut_strong (S := (fun w' => w'.cell? ⟨w.heap.size, 0, none⟩ = some (.int .i64 xp) ∧ w'.cell? ⟨w.heap.size, 1, none⟩ = some (.int .i64 2) ∧ w'.cell? ⟨w.heap.size, 2, none⟩ = some (.int .i64 xm) ∧ w'.cell? ⟨w.heap.size, 3, none⟩ = some (.int .i64 xv) ∧ w'.cell? ⟨w.heap.size, 4, none⟩ = some (.int .i64 xt))) (S' := (fun w' => w'.cell? ⟨w.heap.size, 0, none⟩ = some (.int .i64 xp) ∧ w'.cell? ⟨w.heap.size, 1, none⟩ = some (.int .i64 2) ∧ w'.cell? ⟨w.heap.size, 2, none⟩ = some (.int .i64 xm) ∧ w'.cell? ⟨w.heap.size, 3, none⟩ = some (.int .i64 xv) ∧ w'.cell? ⟨w.heap.size, 4, none⟩ = some (.int .i64 xt) ∧ w'.cell? ⟨b, 2, none⟩ = some (.string ⟨#[112, 111, 114, 116]⟩))) (fun w' h => ⟨h.1, h.2.1, h.2.2.1, h.2.2.2.1, h.2.2.2.2.1⟩) ‹Shut _›; simp only [e] at *; clear e))
  go_wp2
  go_ret
  exact ⟨rfl, by (repeat (first | (with_reducible exact Ext.refl _) | (with_reducible assumption) | (with_reducible apply Ext.alloc) | (with_reducible apply Ext.drew) | (with_reducible apply Ext.drewN) | ((with_reducible refine Ext.setCell ?_ ?_ _); rotate_left; (focus (first | (simp; done) | (simp; omega) | omega))) | (with_reducible refine Ext.trans ?_ (by assumption))))⟩
theorem impl_filterLine_3 (xp xm xv xt : Int) (w : World) (h1 : 1 ≤ xp ∧ xp ≤ 99) (h3 : 0 ≤ xm ∧ xm ≤ 65535) (h4 : 0 ≤ xv ∧ xv ≤ 65535) (h5 : 1 ≤ xt ∧ xt ≤ 999) (hk : PowTab w) :
    Calls Tryd.prog 25 #[.agg #[.int .i64 xp, .int .i64 3, .int .i64 xm, .int .i64 xv, .int .i64 xt]] w fun e w' => e = .returned (.string (filT ⟨xp, 3, xm, xv, xt⟩)) ∧ Ext w w' := by
  obtain ⟨a0, a1⟩ := h1
  obtain ⟨c0, c1⟩ := h3
  obtain ⟨d0, d1⟩ := h4
  obtain ⟨e0, e1⟩ := h5
  have s1 := dec_size (n := xp) (by omega)
  have s2 := hexT_size d0 d1
  have s3 := hexT_size c0 c1
  have s4 := dec_size (n := xt) (by omega)
  have t0 : ¬ 9223372036854775807 < 7 + (dec xp).size := by omega
  have t1 : ¬ 9223372036854775807 < 7 + (dec xp).size + 1 := by omega
  have t2 : ¬ 9223372036854775807 < 7 + (dec xp).size + 1 + 4 := by omega
  have t3 : ¬ 9223372036854775807 < 7 + (dec xp).size + 1 + 4 + 1 := by omega
  have t4 : ¬ 9223372036854775807 < 7 + (dec xp).size + 1 + 4 + 1 + (hexT xv).size := by omega
  have t5 : ¬ 9223372036854775807 < 7 + (dec xp).size + 1 + 4 + 1 + (hexT xv).size + 3 := by omega
  have t6 : ¬ 9223372036854775807 < 7 + (dec xp).size + 1 + 4 + 1 + (hexT xv).size + 3 + (hexT xm).size := by omega
  have t7 : ¬ 9223372036854775807 < 7 + (dec xp).size + 1 + 4 + 1 + (hexT xv).size + 3 + (hexT xm).size + 4 := by omega
  have t8 : ¬ 9223372036854775807 < 7 + (dec xp).size + 1 + 4 + 1 + (hexT xv).size + 3 + (hexT xm).size + 4 + (dec xt).size := by omega
  have t9 : ¬ 9223372036854775807 < 7 + (dec xp).size + 1 + 4 + 1 + (hexT xv).size + 3 + (hexT xm).size + 4 + (dec xt).size + 1 := by omega
  have t10 : ¬ 9223372036854775807 < 7 + (dec xp).size + 5 := by omega
  have t11 : ¬ 9223372036854775807 < 7 + (dec xp).size + 5 + 1 := by omega
  have t12 : ¬ 9223372036854775807 < 7 + (dec xp).size + 5 + 1 + (hexT xv).size := by omega
  have t13 : ¬ 9223372036854775807 < 7 + (dec xp).size + 5 + 1 + (hexT xv).size + 3 := by omega
  have t14 : ¬ 9223372036854775807 < 7 + (dec xp).size + 5 + 1 + (hexT xv).size + 3 + (hexT xm).size := by omega
  have t15 : ¬ 9223372036854775807 < 7 + (dec xp).size + 5 + 1 + (hexT xv).size + 3 + (hexT xm).size + 4 := by omega
  have t16 : ¬ 9223372036854775807 < 7 + (dec xp).size + 5 + 1 + (hexT xv).size + 3 + (hexT xm).size + 4 + (dec xt).size := by omega
  have t17 : ¬ 9223372036854775807 < 7 + (dec xp).size + 5 + 1 + (hexT xv).size + 3 + (hexT xm).size + 4 + (dec xt).size + 1 := by omega
  have t18 : ¬ 9223372036854775807 < 7 + (dec xp).size + 6 := by omega
  have t19 : ¬ 9223372036854775807 < 7 + (dec xp).size + 6 + (hexT xv).size := by omega
  have t20 : ¬ 9223372036854775807 < 7 + (dec xp).size + 6 + (hexT xv).size + 3 := by omega
  have t21 : ¬ 9223372036854775807 < 7 + (dec xp).size + 6 + (hexT xv).size + 3 + (hexT xm).size := by omega
  have t22 : ¬ 9223372036854775807 < 7 + (dec xp).size + 6 + (hexT xv).size + 3 + (hexT xm).size + 4 := by omega
  have t23 : ¬ 9223372036854775807 < 7 + (dec xp).size + 6 + (hexT xv).size + 3 + (hexT xm).size + 4 + (dec xt).size := by omega
  have t24 : ¬ 9223372036854775807 < 7 + (dec xp).size + 6 + (hexT xv).size + 3 + (hexT xm).size + 4 + (dec xt).size + 1 := by omega
  have BX := Lib.hid (Blk.new w 32 #[.int .i64 xp, .int .i64 3, .int .i64 xm, .int .i64 xv, .int .i64 xt])
  have E0 := (Ext.refl w).alloc (.cells #[.int .i64 xp, .int .i64 3, .int .i64 xm, .int .i64 xv, .int .i64 xt] 32)
  have HK := Lib.hid (hk.ext E0)
  clear hk
  go_enter Tryd.func25, Tryd.ntmps25
  go_wp2_with fail
  refine (impl_HexText_any _ _ d0 d1).mono ?_
  rintro e w1 ⟨rfl, F1⟩
  obtain ⟨x0, x1, x2, x3, x4, x5⟩ := bcF (BX.out.ext F1)
  go_wp2_with fail
  refine (impl_HexText_any _ _ c0 c1).mono ?_
  rintro e w3 ⟨rfl, F3⟩
  have G3 := F1.trans F3
  have D3 := G3.drew
  clear x0 x1 x2 x3 x4 x5
  obtain ⟨q0, q1, q2, q3, q4, q5⟩ := bcF (BX.out.ext D3)
  go_wp2_with fail
  go_region_held3 (fun w' => w'.cell? ⟨w.heap.size, 0, none⟩ = some (.int .i64 xp) ∧ w'.cell? ⟨w.heap.size, 1, none⟩ = some (.int .i64 3) ∧ w'.cell? ⟨w.heap.size, 2, none⟩ = some (.int .i64 xm) ∧ w'.cell? ⟨w.heap.size, 3, none⟩ = some (.int .i64 xv) ∧ w'.cell? ⟨w.heap.size, 4, none⟩ = some (.int .i64 xt)) (first | (with_reducible exact ⟨q0, q1, q2, q3, q4⟩) | (with_reducible exact ⟨q0, q1, q2, q3, q4, rr⟩) | go_keep) (first | (go_at_call 37; refine (strconv_Itoa_any _ _ (by omega) (by omega) (HK.out.ext (by assumption))).mono ?_; rintro e w2 ⟨rfl, F2⟩; have D2 := Ext.trans (by assumption) F2; obtain ⟨q0, q1, q2, q3, q4, q5⟩ := bcF (BX.out.ext D2); first | (replace rr := row_ext rr F2) | skip) | (go_at_call 42; refine (impl_fieldNames_any _).mono ?_; rintro e w2 ⟨b, rfl, ⟨r0, r1, r2, r3⟩, F2⟩; have D2 := Ext.trans (by assumption) F2; obtain ⟨q0, q1, q2, q3, q4, q5⟩ := bcF (BX.out.ext D2); have rr := r3; clear r0 r1 r2 r3; have e := shut_strong (S := (fun w' => w'.cell? ⟨w.heap.size, 0, none⟩ = some (.int .i64 xp) ∧ w'.cell? ⟨w.heap.size, 1, none⟩ = some (.int .i64 3) ∧ w'.cell? ⟨w.heap.size, 2, none⟩ = some (.int .i64 xm) ∧ w'.cell? ⟨w.heap.size, 3, none⟩ = some (.int .i64 xv) ∧ w'.cell? ⟨w.heap.size, 4, none⟩ = some (.int .i64 xt))) (S' := (fun w' => w'.cell? ⟨w.heap.size, 0, none⟩ = some (.int .i64 xp) ∧ w'.cell? ⟨w.heap.size, 1, none⟩ = some (.int .i64 3) ∧ w'.cell? ⟨w.heap.size, 2, none⟩ = some (.int .i64 xm) ∧ w'.cell? ⟨w.heap.size, 3, none⟩ = some (.int .i64 xv) ∧ w'.cell? ⟨w.heap.size, 4, none⟩ = some (.int .i64 xt) ∧ w'.cell? ⟨b, 3, none⟩ = some (.string ⟨#[109, 97, 114, 107]⟩))) (fun w' h => ⟨h.1, h.2.1, h.2.2.1, h.2.2.2.1, h.2.2.2.2.1⟩) ‹Shut _›; simp only [e] at *; clear e))
  go_wp2
  go_ret
  exact ⟨rfl, by (repeat (first | (with_reducible exact Ext.refl _) | (with_reducible assumption) | (with_reducible apply Ext.alloc) | (with_reducible apply Ext.drew) | (with_reducible apply Ext.drewN) | ((with_reducible refine Ext.setCell ?_ ?_ _); rotate_left; (focus (first | (simp; done) | (simp; omega) | omega))) | (with_reducible refine Ext.trans ?_ (by assumption))))⟩
theorem impl_filterLine_any (x : Flt) (w : World) (h : filOk x = true) (hk : PowTab w) :
    Calls Tryd.prog 25 #[fltW x] w fun e w' => e = .returned (.string (filT x)) ∧ Ext w w' := by
  obtain ⟨h1, ⟨b0, b1⟩, h3, h4, h5⟩ := fil_parts h
  clear h
  obtain ⟨xp, xf, xm, xv, xt⟩ := x
  dsimp only at h1 b0 b1 h3 h4 h5
  have hf : xf = 0 ∨ xf = 1 ∨ xf = 2 ∨ xf = 3 := by omega
  rcases hf with rfl | rfl | rfl | rfl
  · exact impl_filterLine_0 xp xm xv xt w h1 h3 h4 h5 hk
  · exact impl_filterLine_1 xp xm xv xt w h1 h3 h4 h5 hk
  · exact impl_filterLine_2 xp xm xv xt w h1 h3 h4 h5 hk
  · exact impl_filterLine_3 xp xm xv xt w h1 h3 h4 h5 hk
theorem spec_cfFilter_any (x : Flt) (w : World) :
    Calls Tryd.prog 21 #[fltW x] w fun e w' => e = .returned (.bool (filB1 x)) ∧ Ext w w' := by
  go_enter Tryd.func21, Tryd.ntmps21
  go_wp2_with (go_at_call 22; refine (spec_l1In_any _ _ _ _ ).mono ?_; rintro e w' ⟨rfl, rfl⟩)
  all_goals (go_ret; refine ⟨?_, (Ext.refl _).alloc _⟩; first | (simp [filB1, fltB, *]; done) | (have hv : I64 x.value := i64_in (a := 0) (b := 65535) (by assumption) (by unfold I64; omega) (by unfold I64; omega); have hh := and_self_iff x.value x.mask hv; simp [filB1, fltB, *]))
theorem impl_filterRight_any (x : Flt) (w : World) :
    Calls Tryd.prog 24 #[fltW x] w fun e w' => e = .returned (.bool (filB1 x)) ∧ Ext w w' := by
  go_enter Tryd.func24, Tryd.ntmps24
  go_wp2
  all_goals (go_ret; refine ⟨?_, (Ext.refl _).alloc _⟩; first | (simp [filB1, fltB, inR, *]; done) | (simp [filB1, fltB, inR, *]; omega))
end Go.Proofs.YtnamgkiealfffaaDoor
