/- 'FnExactReadData' answers true for every input, and its arguments read as before. No condition. -/
import Derived.Test.YtapmppnclgjpdaaRows
import Derived.Test.YtapmppnclgjpdaaStr
namespace Go.Proofs.Ytapmppnclgjpdaa.LReadData
open Go.RowKit Go.WideShapes Go.ChangeShapes Go.ChangeAt
set_option linter.unusedVariables false
set_option linter.unusedSimpArgs false
set_option maxHeartbeats 400000
theorem walk (a0 : ByteArray) (wf0 : a0.size ≤ maxLen) (w : World) :
    Calls Try.prog 6 #[.string a0] w fun e w' => e = .returned (.bool true) ∧ Ext w w' := by
  go_enter Try.func6, Try.ntmps6
  go_wp2_with (first | (go_at_call 16; refine (spec_ReadData_any _ _ (by omega)).mono ?_; rintro e w' ⟨rfl, hb⟩; (try (replace hb := Ext.trans (by assumption) hb)); have hc := Ext.cells hb; have hs := Ext.lts hb) | (go_at_call 17; refine (impl_ReadData_any _ _ (by omega)).mono ?_; rintro e w' ⟨rfl, hb⟩; (try (replace hb := Ext.trans (by assumption) hb)); have hc := Ext.cells hb; have hs := Ext.lts hb))
  all_goals (go_ret; refine ⟨rfl, ?_⟩; (repeat (first | exact Ext.refl _ | assumption | apply Ext.alloc | apply Ext.drew | apply Ext.drewN | (refine Ext.trans ?_ (by assumption)))))

theorem own : ownKnob Try.prog.godebug = none := by kernel_rfl
theorem laidOut : laidOutB Try.prog = true := by kernel_rfl
set_option maxRecDepth 100000 in
theorem lifted (os : Os) (started : os.Started) (H : Type) (enc : TypeId × Value → H) :
    ReturnsInHanded {} Try.checked os 6 .any (Rows.fnExactReadDataSpec.pre6 enc Try.prog Try.f6 Rows.fnExactReadDataRow.domain false) (Rows.fnExactReadDataSpec.post enc Try.prog Try.f6 false true false false) := by
  refine returnsInHanded_of_change (C := Try.checked) own started (by kernel_rfl) Try.func6
    (ChangeSpec.witness6 (enc := enc) (C := Try.checked) false ⟨#[], #[.string ⟨#[]⟩], []⟩ 8 (by kernel_rfl) (by kernel_rfl) (by kernel_rfl) (by kernel_rfl)) ?_
  intro W base args ds gs before hval0 hW hcnd _
  have hval : ∀ (j : Nat) t v, Try.f6.params[j]? = some t → args[j]? = some v → Value.okWide Try.prog W .any base t v := hval0
  have hW' := hW
  obtain ⟨p, q, hA0, hV, rfl, hfz, hnd⟩ := hW
  have hA : DataW.TrodAll enc Try.prog W 0 (fun _ => true) true Try.f6.params.toList args.toList ds p := hA0
  have hAk := hA
  rw [Try.params6] at hA hval
  obtain ⟨v0, vs0, d0, ds0, p0, q0, hargs, rfl, rfl, h0, r0⟩ := trodAll_cons hA
  obtain ⟨rfl, rfl, rfl⟩ := trodAll_nil r0
  obtain rfl : args = #[v0] := by cases args; simp_all
  obtain ⟨rfl, rfl⟩ := trodVars_none hV
  simp only [List.append_nil] at hW' hAk
  refine Calls.mono (R := fun e W' => e = .returned (.bool true) ∧ Ext W W') ?_ (fun e W' hh => ?_)
  rotate_left
  · obtain ⟨rfl, hx⟩ := hh
    exact ⟨_, rfl, law_post laidOut hW' rfl hAk (of_decide_eq_true (by kernel_rfl)) rfl Try.underlying4 rfl rfl rfl hx⟩
  clear hA0 hval0 hW' hAk hfz hnd
  obtain ⟨a0, rfl, rfl, rfl, wf0⟩ := Go.ChangeMaps.open_string Try.underlying9 (hval 0 9 v0 rfl rfl) h0
  exact walk a0 wf0 W

theorem over : Rows.fnExactReadDataRow.holds Try.pinned (OpenSpec.ofChange Rows.fnExactReadDataSpec) :=
  OpenClaim.holds_of_wide 6 Try.f6 rfl rfl rfl rfl rfl rfl rfl ⟨rfl, rfl, rfl, rfl, rfl⟩ rfl rfl rfl rfl rfl (by kernel_rfl) Try.func6 (by kernel_rfl)
    (of_decide_eq_true (by kernel_rfl)) (by unfold Func.isWrapper; first | (rw [if_pos (by decide +kernel)]; kernel_rfl) | (rw [if_neg (by decide +kernel)]; exact ⟨rfl, rfl⟩))
    (fun os started H enc _ => lifted os started H enc)

end Go.Proofs.Ytapmppnclgjpdaa.LReadData
namespace Go.Proofs.Ytapmppnclgjpdaa
theorem provedFnExactReadData : Rows.FnExactReadDataSaid := LReadData.over
#print axioms provedFnExactReadData
end Go.Proofs.Ytapmppnclgjpdaa
