/- 'FnExactCountTaken' answers true for every input, and its arguments read as before. No condition. -/
import Derived.Test.YtmciiomhcojaaaaRows
import Derived.Test.YtmciiomhcojaaaaCount
namespace Go.Proofs.Ytmciiomhcojaaaa.LCountTaken
open Go.RowKit Go.WideShapes Go.ChangeShapes Go.ChangeAt
set_option linter.unusedVariables false
set_option linter.unusedSimpArgs false
set_option maxHeartbeats 400000
theorem walk (a0_0 a0_1 a0_2 a0_3 a0_4 : Int) (wf0_0 : (Lit.int .i64 a0_0).wf = true) (wf0_1 : (Lit.int .i64 a0_1).wf = true) (wf0_2 : (Lit.int .i64 a0_2).wf = true) (wf0_3 : (Lit.int .i64 a0_3).wf = true) (wf0_4 : (Lit.int .i64 a0_4).wf = true) (w : World) :
    Calls Try.prog 9 #[.agg #[.int .i64 a0_0, .int .i64 a0_1, .int .i64 a0_2, .int .i64 a0_3, .int .i64 a0_4]] w fun e w' => e = .returned (.bool true) ∧ Ext w w' := by
  go_enter Try.func9, Try.ntmps9
  go_wp2_with (first | (go_at_call 19; refine (laws_toFilter_any _ _ _ _ _ _ ).mono ?_; rintro e w' ⟨rfl, hb⟩; (try (replace hb := Ext.trans (by assumption) hb)); have hc := Ext.cells hb; have hz := Ext.frozens hb; have hs := Ext.lts hb) | (go_at_call 26; refine (spec_CountTaken_any _ _ _ _ _ _ ).mono ?_; rintro e w' ⟨rfl, hb⟩; (try (replace hb := Ext.trans (by assumption) hb)); have hc := Ext.cells hb; have hz := Ext.frozens hb; have hs := Ext.lts hb) | (go_at_call 27; refine (impl_CountTaken_any _ _ _ _ _ _ ).mono ?_; rintro e w' ⟨rfl, hb⟩; (try (replace hb := Ext.trans (by assumption) hb)); have hc := Ext.cells hb; have hz := Ext.frozens hb; have hs := Ext.lts hb))
  all_goals (go_ret; refine ⟨rfl, ?_⟩; (repeat (first | (with_reducible exact Ext.refl _) | (with_reducible assumption) | (with_reducible apply Ext.alloc) | (with_reducible apply Ext.drew) | (with_reducible apply Ext.drewN) | ((with_reducible refine Ext.setCell ?_ ?_ _); rotate_left; (focus (first | (simp; done) | (simp; omega) | omega))) | (with_reducible refine Ext.trans ?_ (by assumption)))))

theorem own : ownKnob Try.prog.godebug = none := by kernel_rfl
theorem laidOut : laidOutB Try.prog = true := by kernel_rfl
set_option maxRecDepth 100000 in
theorem lifted (os : Os) (started : os.Started) (H : Type) (enc : TypeId × Value → H) :
    ReturnsInHanded {} Try.checked os 9 .any (Rows.fnExactCountTakenSpec.pre6 enc Try.prog Try.f9 Rows.fnExactCountTakenRow.domain false) (Rows.fnExactCountTakenSpec.post enc Try.prog Try.f9 false true false false) := by
  refine returnsInHanded_of_change (C := Try.checked) own started (by kernel_rfl) Try.func9
    (ChangeSpec.witness6 (enc := enc) (C := Try.checked) false ⟨#[], #[.agg #[.int .i64 0, .int .i64 0, .int .i64 0, .int .i64 0, .int .i64 0]], []⟩ 8 (by kernel_rfl) (by kernel_rfl) (by kernel_rfl) (by kernel_rfl)) ?_
  intro W base args ds gs before hval0 hW hcnd _
  have hval : ∀ (j : Nat) t v, Try.f9.params[j]? = some t → args[j]? = some v → Value.okWide Try.prog W .any base t v := hval0
  have hW' := hW
  obtain ⟨p, q, hA0, hV, rfl, hfz, hnd⟩ := hW
  have hA : DataW.TrodAll enc Try.prog W 0 (fun _ => true) true Try.f9.params.toList args.toList ds p := hA0
  have hAk := hA
  rw [Try.params9] at hA hval
  obtain ⟨v0, vs0, d0, ds0, p0, q0, hargs, rfl, rfl, h0, r0⟩ := trodAll_cons hA
  obtain ⟨rfl, rfl, rfl⟩ := trodAll_nil r0
  obtain rfl : args = #[v0] := by cases args; simp_all
  obtain ⟨rfl, rfl⟩ := trodVars_none hV
  simp only [List.append_nil] at hW' hAk
  refine Calls.mono (R := fun e W' => e = .returned (.bool true) ∧ Ext W W') ?_ (fun e W' hh => ?_)
  rotate_left
  · obtain ⟨rfl, hx⟩ := hh
    exact ⟨_, rfl, law_post laidOut hW' rfl hAk (of_decide_eq_true (by kernel_rfl)) rfl Try.underlying4 rfl rfl rfl hx⟩
  clear hA0 hval0 hW' hAk hfz hnd
  obtain ⟨c0_0, c0_1, c0_2, c0_3, c0_4, y0_0, y0_1, y0_2, y0_3, y0_4, m0, rfl, rfl, rfl, g0_0, g0_1, g0_2, g0_3, g0_4⟩ := open_agg5 Try.underlying33 (by kernel_rfl) (by kernel_rfl) (hval 0 33 v0 rfl rfl) h0
  obtain ⟨a0_0, e0_0, _, wf0_0⟩ := DataW.trod_int Try.underlying3 g0_0
  obtain rfl : c0_0 = .int .i64 a0_0 := by simpa using e0_0
  obtain ⟨a0_1, e0_1, _, wf0_1⟩ := DataW.trod_int Try.underlying3 g0_1
  obtain rfl : c0_1 = .int .i64 a0_1 := by simpa using e0_1
  obtain ⟨a0_2, e0_2, _, wf0_2⟩ := DataW.trod_int Try.underlying3 g0_2
  obtain rfl : c0_2 = .int .i64 a0_2 := by simpa using e0_2
  obtain ⟨a0_3, e0_3, _, wf0_3⟩ := DataW.trod_int Try.underlying3 g0_3
  obtain rfl : c0_3 = .int .i64 a0_3 := by simpa using e0_3
  obtain ⟨a0_4, e0_4, _, wf0_4⟩ := DataW.trod_int Try.underlying3 g0_4
  obtain rfl : c0_4 = .int .i64 a0_4 := by simpa using e0_4
  exact walk a0_0 a0_1 a0_2 a0_3 a0_4 wf0_0 wf0_1 wf0_2 wf0_3 wf0_4 W

theorem over : Rows.fnExactCountTakenRow.holds Try.pinned (OpenSpec.ofChange Rows.fnExactCountTakenSpec) :=
  OpenClaim.holds_of_wide 9 Try.f9 rfl rfl rfl rfl rfl rfl rfl ⟨rfl, rfl, rfl, rfl, rfl⟩ rfl rfl rfl rfl rfl (by kernel_rfl) Try.func9 (by kernel_rfl)
    (of_decide_eq_true (by kernel_rfl)) (by unfold Func.isWrapper; first | (rw [if_pos (by decide +kernel)]; kernel_rfl) | (rw [if_neg (by decide +kernel)]; exact ⟨rfl, rfl⟩))
    (fun os started H enc _ => lifted os started H enc)

end Go.Proofs.Ytmciiomhcojaaaa.LCountTaken
namespace Go.Proofs.Ytmciiomhcojaaaa
theorem provedFnExactCountTaken : Rows.FnExactCountTakenSaid := LCountTaken.over
#print axioms provedFnExactCountTaken
end Go.Proofs.Ytmciiomhcojaaaa
