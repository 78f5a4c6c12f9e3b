/- 'FnExactEncodeAttrs' answers true for every input, and its arguments read as before. No condition. -/
import Derived.Test.YtifhjhgccknndaaRows
import Derived.Test.YtifhjhgccknndaaEncI
import Derived.Test.YtifhjhgccknndaaAttrS
import Derived.Test.YtifhjhgccknndaaOpen
namespace Go.Proofs.Ytifhjhgccknndaa.LEncodeAttrs
open Go.RowKit Go.WideShapes Go.ChangeShapes Go.ChangeAt
set_option linter.unusedVariables false
set_option linter.unusedSimpArgs false
set_option maxHeartbeats 1000000
theorem walk {H : Type} {enc : TypeId × Value → H} {w : World} {base : Nat} {d0 : DataW H} {p0 : List MemPlace} (v : Value) (hval : Value.okWide Try.prog w .any base 22 v) (h0 : DataW.Trod enc Try.prog w 0 (fun _ => true) true 22 v d0 p0)  :
    Calls Try.prog 14 #[v] w fun e w' => e = .returned (.bool true) ∧ Ext w w' := by
  obtain ⟨l, hrd, hlm, hok⟩ : ∃ l : List Att, RdA w v l ∧ l.length ≤ maxLen ∧ ∀ x ∈ l, okAttr x := by
    obtain ⟨a0, len, cap, rfl⟩ := okWide_slice Try.underlying22 hval
    obtain ⟨fuel, hf⟩ := h0
    exact open_AttrS (r := .any) (base := 0) ⟨_, _, _, rfl⟩ hf
  have HR := Lib.hid hrd
  have HO := Lib.hid (fun x (hx : x ∈ l) => (hok x hx).2.2)
  clear hrd hok hval h0
  go_enter Try.func14, Try.ntmps14
  go_wp2_with fail
  refine (laws_szAttrS_any _ l _ HR.out hlm HO.out).mono ?_
  rintro e w1 ⟨⟨r, rfl, hr⟩, F1⟩
  by_cases hr0 : r < 0
  · clear hr
    go_wp2
    go_ret
    exact ⟨rfl, F1⟩
  have hl := hr (by omega)
  clear hr
  go_wp2_with fail
  refine (laws_toAttrS_any _ l _ (HR.out.ext F1) hl).mono ?_
  rintro e w2 ⟨u2, rfl, O2, F2⟩
  have E2 := F1.trans F2
  have R2 := Lib.hid (Own.rd O2 Att.len)
  clear O2
  go_wp2_with fail
  refine (spec_EncodeAttrs_any _ l _ R2.out hl).mono ?_
  rintro e w3 ⟨rfl, F3⟩
  have E3 := E2.trans F3
  go_wp2_with fail
  refine (laws_toAttrS_any _ l _ (HR.out.ext E3) hl).mono ?_
  rintro e w4 ⟨u4, rfl, O4, F4⟩
  have E4 := E3.trans F4
  have R4 := Lib.hid (Own.rd O4 Att.len)
  clear O4
  go_wp2_with fail
  refine (impl_EncodeAttrs_any _ l _ R4.out hl).mono ?_
  rintro e w5 ⟨rfl, F5⟩
  have E5 := E4.trans F5
  go_wp2_with fail
  refine (laws_toAttrS_any _ l _ (HR.out.ext E5) hl).mono ?_
  rintro e w6 ⟨u6, rfl, O6, F6⟩
  have E6 := E5.trans F6
  have R6 := Lib.hid (Own.rd O6 Att.len)
  clear O6
  go_wp2_with fail
  refine (laws_eqAttrS_any _ _ l _ (R4.out.ext (F5.trans F6)) R6.out (by omega)).mono ?_
  rintro e w7 ⟨rfl, F7⟩
  go_wp2
  go_ret
  exact ⟨rfl, E6.trans F7⟩

theorem own : ownKnob Try.prog.godebug = none := by kernel_rfl
theorem laidOut : laidOutB Try.prog = true := by kernel_rfl
set_option maxRecDepth 100000 in
theorem lifted (os : Os) (started : os.Started) (H : Type) (enc : TypeId × Value → H) :
    ReturnsInHanded {} Try.checked os 14 .any (Rows.fnExactEncodeAttrsSpec.pre6 enc Try.prog Try.f14 Rows.fnExactEncodeAttrsRow.domain false) (Rows.fnExactEncodeAttrsSpec.post enc Try.prog Try.f14 false true false false) := by
  refine returnsInHanded_of_change (C := Try.checked) own started (by kernel_rfl) Try.func14
    (ChangeSpec.witness6 (enc := enc) (C := Try.checked) false ⟨#[], #[.slice none 0 0], []⟩ 8 (by kernel_rfl) (by kernel_rfl) (by kernel_rfl) (by kernel_rfl)) ?_
  intro W base args ds gs before hval0 hW hcnd _
  have hval : ∀ (j : Nat) t v, Try.f14.params[j]? = some t → args[j]? = some v → Value.okWide Try.prog W .any base t v := hval0
  have hW' := hW
  obtain ⟨p, q, hA0, hV, rfl, hfz, hnd⟩ := hW
  have hA : DataW.TrodAll enc Try.prog W 0 (fun _ => true) true Try.f14.params.toList args.toList ds p := hA0
  have hAk := hA
  rw [Try.params14] at hA hval
  obtain ⟨v0, vs0, d0, ds0, p0, q0, hargs, rfl, rfl, h0, r0⟩ := trodAll_cons hA
  obtain ⟨rfl, rfl, rfl⟩ := trodAll_nil r0
  obtain rfl : args = #[v0] := by cases args; simp_all
  obtain ⟨rfl, rfl⟩ := trodVars_none hV
  simp only [List.append_nil] at hW' hAk
  refine Calls.mono (R := fun e W' => e = .returned (.bool true) ∧ Ext W W') ?_ (fun e W' hh => ?_)
  rotate_left
  · obtain ⟨rfl, hx⟩ := hh
    exact ⟨_, rfl, law_post laidOut hW' rfl hAk (of_decide_eq_true (by kernel_rfl)) rfl Try.underlying4 rfl rfl rfl hx⟩
  clear hA0 hval0 hW' hAk hfz hnd
  exact walk (w := W) v0 (hval 0 22 v0 rfl rfl) h0

theorem over : Rows.fnExactEncodeAttrsRow.holds Try.pinned (OpenSpec.ofChange Rows.fnExactEncodeAttrsSpec) :=
  OpenClaim.holds_of_wide 14 Try.f14 rfl rfl rfl rfl rfl rfl rfl ⟨rfl, rfl, rfl, rfl, rfl⟩ rfl rfl rfl rfl rfl (by kernel_rfl) Try.func14 (by kernel_rfl)
    (of_decide_eq_true (by kernel_rfl)) (by unfold Func.isWrapper; first | (rw [if_pos (by decide +kernel)]; kernel_rfl) | (rw [if_neg (by decide +kernel)]; exact ⟨rfl, rfl⟩))
    (fun os started H enc _ => lifted os started H enc)

end Go.Proofs.Ytifhjhgccknndaa.LEncodeAttrs
namespace Go.Proofs.Ytifhjhgccknndaa
theorem provedFnExactEncodeAttrs : Rows.FnExactEncodeAttrsSaid := LEncodeAttrs.over
#print axioms provedFnExactEncodeAttrs
end Go.Proofs.Ytifhjhgccknndaa
