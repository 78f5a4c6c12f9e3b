/- 'FnExactFilterTakes' answers true for every input, and its arguments read as before. No condition. -/
import Derived.Test.YtmciiomhcojaaaaRows
import Derived.Test.YtmciiomhcojaaaaPF2
namespace Go.Proofs.Ytmciiomhcojaaaa.LFilterTakes
open Go.RowKit Go.WideShapes Go.ChangeShapes Go.ChangeAt
set_option linter.unusedVariables false
set_option linter.unusedSimpArgs false
set_option maxHeartbeats 400000
theorem walk (a0_0 a0_1 a0_2 a0_3 a0_4 : Int) (wf0_0 : (Lit.int .i64 a0_0).wf = true) (wf0_1 : (Lit.int .i64 a0_1).wf = true) (wf0_2 : (Lit.int .i64 a0_2).wf = true) (wf0_3 : (Lit.int .i64 a0_3).wf = true) (wf0_4 : (Lit.int .i64 a0_4).wf = true) (a1_0 a1_1 a1_2 a1_3 a1_4 a1_5 : Int) (wf1_0 : (Lit.int .i64 a1_0).wf = true) (wf1_1 : (Lit.int .i64 a1_1).wf = true) (wf1_2 : (Lit.int .i64 a1_2).wf = true) (wf1_3 : (Lit.int .i64 a1_3).wf = true) (wf1_4 : (Lit.int .i64 a1_4).wf = true) (wf1_5 : (Lit.int .i64 a1_5).wf = true) (w : World) :
    Calls Try.prog 6 #[.agg #[.int .i64 a0_0, .int .i64 a0_1, .int .i64 a0_2, .int .i64 a0_3, .int .i64 a0_4], .agg #[.int .i64 a1_0, .int .i64 a1_1, .int .i64 a1_2, .int .i64 a1_3, .int .i64 a1_4, .int .i64 a1_5]] w fun e w' => e = .returned (.bool true) ∧ Ext w w' := by
  go_enter Try.func6, Try.ntmps6
  go_wp2_with fail
  (go_wp2_with fail; refine wp_region_ext (by kernel_rfl) (by kernel_rfl) ?_; (repeat (first | go_big_quiet_step ((first | (go_at_call 19; exact calls_later (laws_toFilter_any _ _ _ _ _ _ )) | (go_at_call 12; exact calls_later (laws_toPacket_any _ _ _ _ _ _ _ )) | (go_at_call 18; exact calls_later (spec_FilterTakes_any _ _ _ _ _ _ _ _ _ _ _ _ )))) | quiet_step ((first | (go_at_call 19; exact calls_later (laws_toFilter_any _ _ _ _ _ _ )) | (go_at_call 12; exact calls_later (laws_toPacket_any _ _ _ _ _ _ _ )) | (go_at_call 18; exact calls_later (spec_FilterTakes_any _ _ _ _ _ _ _ _ _ _ _ _ )))))); refine wpQuiet_nil ?_; intro wq hbq; (try (replace hbq := Ext.trans (by assumption) hbq)); have hcq := Ext.cells hbq; have hzq := Ext.frozens hbq; have hsq := Ext.lts hbq; have hsq0 : w.heap.size < wq.heap.size := Ext.lts hbq _ (by simp <;> omega); have hcq0 : ∀ o, wq.cell? ⟨w.heap.size, o, none⟩ = _ := fun o => Ext.cells hbq _ o (by simp <;> omega); have hzq0 : ∀ o, wq.frozen? ⟨w.heap.size, o, none⟩ = _ := fun o => Ext.frozens hbq _ o (by simp <;> omega); have hsq1 : w.heap.size + 1 < wq.heap.size := Ext.lts hbq _ (by simp <;> omega); have hcq1 : ∀ o, wq.cell? ⟨w.heap.size + 1, o, none⟩ = _ := fun o => Ext.cells hbq _ o (by simp <;> omega); have hzq1 : ∀ o, wq.frozen? ⟨w.heap.size + 1, o, none⟩ = _ := fun o => Ext.frozens hbq _ o (by simp <;> omega); clear hcq hzq)
  go_wp2_with fail
  (go_wp2_with fail; refine wp_region_ext (by kernel_rfl) (by kernel_rfl) ?_; (repeat (first | go_big_quiet_step ((first | (go_at_call 19; exact calls_later (laws_toFilter_any _ _ _ _ _ _ )) | (go_at_call 12; exact calls_later (laws_toPacket_any _ _ _ _ _ _ _ )) | (go_at_call 20; exact calls_later (impl_FilterTakes_any _ _ _ _ _ _ _ _ _ _ _ _ )))) | quiet_step ((first | (go_at_call 19; exact calls_later (laws_toFilter_any _ _ _ _ _ _ )) | (go_at_call 12; exact calls_later (laws_toPacket_any _ _ _ _ _ _ _ )) | (go_at_call 20; exact calls_later (impl_FilterTakes_any _ _ _ _ _ _ _ _ _ _ _ _ )))))); refine wpQuiet_nil ?_; intro wq hbq; (try (replace hbq := Ext.trans (by assumption) hbq)); have hcq := Ext.cells hbq; have hzq := Ext.frozens hbq; have hsq := Ext.lts hbq; have hsq0 : w.heap.size < wq.heap.size := Ext.lts hbq _ (by simp <;> omega); have hcq0 : ∀ o, wq.cell? ⟨w.heap.size, o, none⟩ = _ := fun o => Ext.cells hbq _ o (by simp <;> omega); have hzq0 : ∀ o, wq.frozen? ⟨w.heap.size, o, none⟩ = _ := fun o => Ext.frozens hbq _ o (by simp <;> omega); have hsq1 : w.heap.size + 1 < wq.heap.size := Ext.lts hbq _ (by simp <;> omega); have hcq1 : ∀ o, wq.cell? ⟨w.heap.size + 1, o, none⟩ = _ := fun o => Ext.cells hbq _ o (by simp <;> omega); have hzq1 : ∀ o, wq.frozen? ⟨w.heap.size + 1, o, none⟩ = _ := fun o => Ext.frozens hbq _ o (by simp <;> omega); clear hcq hzq)
  go_wp2
  all_goals (go_ret; refine ⟨rfl, ?_⟩; (repeat (first | (with_reducible exact Ext.refl _) | (with_reducible assumption) | (with_reducible apply Ext.alloc) | (with_reducible apply Ext.drew) | (with_reducible apply Ext.drewN) | ((with_reducible refine Ext.setCell ?_ ?_ _); rotate_left; (focus (first | (simp; done) | (simp; omega) | omega))) | (with_reducible refine Ext.trans ?_ (by assumption)))))

theorem own : ownKnob Try.prog.godebug = none := by kernel_rfl
theorem laidOut : laidOutB Try.prog = true := by kernel_rfl
set_option maxRecDepth 100000 in
theorem lifted (os : Os) (started : os.Started) (H : Type) (enc : TypeId × Value → H) :
    ReturnsInHanded {} Try.checked os 6 .any (Rows.fnExactFilterTakesSpec.pre6 enc Try.prog Try.f6 Rows.fnExactFilterTakesRow.domain false) (Rows.fnExactFilterTakesSpec.post enc Try.prog Try.f6 false true false false) := by
  refine returnsInHanded_of_change (C := Try.checked) own started (by kernel_rfl) Try.func6
    (ChangeSpec.witness6 (enc := enc) (C := Try.checked) false ⟨#[], #[.agg #[.int .i64 0, .int .i64 0, .int .i64 0, .int .i64 0, .int .i64 0], .agg #[.int .i64 0, .int .i64 0, .int .i64 0, .int .i64 0, .int .i64 0, .int .i64 0]], []⟩ 8 (by kernel_rfl) (by kernel_rfl) (by kernel_rfl) (by kernel_rfl)) ?_
  intro W base args ds gs before hval0 hW hcnd _
  have hval : ∀ (j : Nat) t v, Try.f6.params[j]? = some t → args[j]? = some v → Value.okWide Try.prog W .any base t v := hval0
  have hW' := hW
  obtain ⟨p, q, hA0, hV, rfl, hfz, hnd⟩ := hW
  have hA : DataW.TrodAll enc Try.prog W 0 (fun _ => true) true Try.f6.params.toList args.toList ds p := hA0
  have hAk := hA
  rw [Try.params6] at hA hval
  obtain ⟨v0, vs0, d0, ds0, p0, q0, hargs, rfl, rfl, h0, r0⟩ := trodAll_cons hA
  obtain ⟨v1, vs1, d1, ds1, p1, q1, rfl, rfl, rfl, h1, r1⟩ := trodAll_cons r0
  obtain ⟨rfl, rfl, rfl⟩ := trodAll_nil r1
  obtain rfl : args = #[v0, v1] := by cases args; simp_all
  obtain ⟨rfl, rfl⟩ := trodVars_none hV
  simp only [List.append_nil] at hW' hAk
  refine Calls.mono (R := fun e W' => e = .returned (.bool true) ∧ Ext W W') ?_ (fun e W' hh => ?_)
  rotate_left
  · obtain ⟨rfl, hx⟩ := hh
    exact ⟨_, rfl, law_post laidOut hW' rfl hAk (of_decide_eq_true (by kernel_rfl)) rfl Try.underlying4 rfl rfl rfl hx⟩
  clear hA0 hval0 hW' hAk hfz hnd
  obtain ⟨c0_0, c0_1, c0_2, c0_3, c0_4, y0_0, y0_1, y0_2, y0_3, y0_4, m0, rfl, rfl, rfl, g0_0, g0_1, g0_2, g0_3, g0_4⟩ := open_agg5 Try.underlying33 (by kernel_rfl) (by kernel_rfl) (hval 0 33 v0 rfl rfl) h0
  obtain ⟨a0_0, e0_0, _, wf0_0⟩ := DataW.trod_int Try.underlying3 g0_0
  obtain rfl : c0_0 = .int .i64 a0_0 := by simpa using e0_0
  obtain ⟨a0_1, e0_1, _, wf0_1⟩ := DataW.trod_int Try.underlying3 g0_1
  obtain rfl : c0_1 = .int .i64 a0_1 := by simpa using e0_1
  obtain ⟨a0_2, e0_2, _, wf0_2⟩ := DataW.trod_int Try.underlying3 g0_2
  obtain rfl : c0_2 = .int .i64 a0_2 := by simpa using e0_2
  obtain ⟨a0_3, e0_3, _, wf0_3⟩ := DataW.trod_int Try.underlying3 g0_3
  obtain rfl : c0_3 = .int .i64 a0_3 := by simpa using e0_3
  obtain ⟨a0_4, e0_4, _, wf0_4⟩ := DataW.trod_int Try.underlying3 g0_4
  obtain rfl : c0_4 = .int .i64 a0_4 := by simpa using e0_4
  obtain ⟨c1_0, c1_1, c1_2, c1_3, c1_4, c1_5, y1_0, y1_1, y1_2, y1_3, y1_4, y1_5, m1, rfl, rfl, rfl, g1_0, g1_1, g1_2, g1_3, g1_4, g1_5⟩ := open_agg6 Try.underlying23 (by kernel_rfl) (by kernel_rfl) (hval 1 23 v1 rfl rfl) h1
  obtain ⟨a1_0, e1_0, _, wf1_0⟩ := DataW.trod_int Try.underlying3 g1_0
  obtain rfl : c1_0 = .int .i64 a1_0 := by simpa using e1_0
  obtain ⟨a1_1, e1_1, _, wf1_1⟩ := DataW.trod_int Try.underlying3 g1_1
  obtain rfl : c1_1 = .int .i64 a1_1 := by simpa using e1_1
  obtain ⟨a1_2, e1_2, _, wf1_2⟩ := DataW.trod_int Try.underlying3 g1_2
  obtain rfl : c1_2 = .int .i64 a1_2 := by simpa using e1_2
  obtain ⟨a1_3, e1_3, _, wf1_3⟩ := DataW.trod_int Try.underlying3 g1_3
  obtain rfl : c1_3 = .int .i64 a1_3 := by simpa using e1_3
  obtain ⟨a1_4, e1_4, _, wf1_4⟩ := DataW.trod_int Try.underlying3 g1_4
  obtain rfl : c1_4 = .int .i64 a1_4 := by simpa using e1_4
  obtain ⟨a1_5, e1_5, _, wf1_5⟩ := DataW.trod_int Try.underlying3 g1_5
  obtain rfl : c1_5 = .int .i64 a1_5 := by simpa using e1_5
  exact walk a0_0 a0_1 a0_2 a0_3 a0_4 wf0_0 wf0_1 wf0_2 wf0_3 wf0_4 a1_0 a1_1 a1_2 a1_3 a1_4 a1_5 wf1_0 wf1_1 wf1_2 wf1_3 wf1_4 wf1_5 W

theorem over : Rows.fnExactFilterTakesRow.holds Try.pinned (OpenSpec.ofChange Rows.fnExactFilterTakesSpec) :=
  OpenClaim.holds_of_wide 6 Try.f6 rfl rfl rfl rfl rfl rfl rfl ⟨rfl, rfl, rfl, rfl, rfl⟩ rfl rfl rfl rfl rfl (by kernel_rfl) Try.func6 (by kernel_rfl)
    (of_decide_eq_true (by kernel_rfl)) (by unfold Func.isWrapper; first | (rw [if_pos (by decide +kernel)]; kernel_rfl) | (rw [if_neg (by decide +kernel)]; exact ⟨rfl, rfl⟩))
    (fun os started H enc _ => lifted os started H enc)

end Go.Proofs.Ytmciiomhcojaaaa.LFilterTakes
namespace Go.Proofs.Ytmciiomhcojaaaa
theorem provedFnExactFilterTakes : Rows.FnExactFilterTakesSaid := LFilterTakes.over
#print axioms provedFnExactFilterTakes
end Go.Proofs.Ytmciiomhcojaaaa
