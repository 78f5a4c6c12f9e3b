/- 'FnExactClassAttrs' answers true for every input, and its argument reads as before. No condition. -/
import Derived.Test.YtifhjhgccknndaaRows
import Derived.Test.YtifhjhgccknndaaAttrN
import Derived.Test.YtifhjhgccknndaaClassS
namespace Go.Proofs.Ytifhjhgccknndaa.LClassAttrs
open Go.RowKit Go.WideShapes Go.ChangeShapes Go.ChangeAt
set_option linter.unusedVariables false
set_option linter.unusedSimpArgs false
set_option maxHeartbeats 1000000
theorem walk (a0 a1 a2 a3 a4 a5 a6 a7 : Int) (wf0 : (Lit.int .i64 a0).wf = true) (wf1 : (Lit.int .i64 a1).wf = true) (wf2 : (Lit.int .i64 a2).wf = true) (wf3 : (Lit.int .i64 a3).wf = true) (wf4 : (Lit.int .i64 a4).wf = true) (wf5 : (Lit.int .i64 a5).wf = true) (wf6 : (Lit.int .i64 a6).wf = true) (wf7 : (Lit.int .i64 a7).wf = true) (w : World) :
    Calls Try.prog 7 #[.agg #[.int .i64 a0, .int .i64 a1, .int .i64 a2, .int .i64 a3, .int .i64 a4, .int .i64 a5, .int .i64 a6, .int .i64 a7]] w fun en w' => en = .returned (.bool true) ∧ Ext w w' := by
  obtain ⟨x, hx⟩ : ∃ x : Cls, x = ⟨a0, a1, a2, a3, a4, a5, a6, a7⟩ := ⟨_, rfl⟩
  have HX := Lib.hid (show (.agg #[.int .i64 a0, .int .i64 a1, .int .i64 a2, .int .i64 a3, .int .i64 a4, .int .i64 a5, .int .i64 a6, .int .i64 a7] : Value) = clsV x by rw [hx])
  have hl : (itV 4 x.nums).length ≤ 101 := itV_len _ _ (by simp [Cls.nums])
  rw [HX.out]
  clear HX hx wf0 wf1 wf2 wf3 wf4 wf5 wf6 wf7
  generalize hL : itV 4 x.nums = L at hl
  have HL := Lib.hid hL
  clear hL
  go_enter Try.func7, Try.ntmps7
  go_wp2_with fail
  refine (laws_toClass_any x _).mono ?_
  rintro en w1 ⟨rfl, E1⟩
  go_wp2_with fail
  refine (spec_ClassAttrs_any x _).mono ?_
  rintro en w2 ⟨v0, rfl, O0, F2⟩
  rw [HL.out] at O0
  have E2 := E1.trans F2
  have O0' := Lib.hid O0
  clear O0
  have hx2 : ∀ o, w2.cell? ⟨w.heap.size, o, none⟩ = _ := fun o => Ext.cells E2 _ o (by simp)
  go_wp2_with fail
  clear hx2
  refine (laws_toClass_any x _).mono ?_
  rintro en w3 ⟨rfl, F3⟩
  have E3 := E2.trans F3
  go_wp2_with fail
  refine (impl_ClassAttrs_any x _).mono ?_
  rintro en w4 ⟨v1, rfl, O1, F4⟩
  rw [HL.out] at O1
  have E4 := E3.trans F4
  have O1' := Lib.hid O1
  clear O1
  go_wp2_with fail
  refine (laws_eqAttrS_any _ _ L _ (Own.rd O1'.out Att.len) (Own.rd (Own.ext O0'.out (F3.trans F4)) Att.len) (by omega)).mono ?_
  rintro en w5 ⟨rfl, F5⟩
  have E5 := E4.trans F5
  go_wp2_with fail
  refine (laws_markAttrS_any _ L 1 _ _ _ (Own.ext O1'.out F5) (by omega) (by omega)).mono ?_
  rintro en w6 ⟨rfl, O2, G6⟩
  have E6 := E5.grown G6 (fun g hg => Nat.le_trans (Ext.size E3) ((Own.lt O1'.out g hg).1))
  have O2' := Lib.hid O2
  have O0'' := Lib.hid ((Own.ext O0'.out ((F3.trans F4).trans F5)).kept G6 (fun g hg => .inr (fun h => by have := (Own.lt O0'.out g h).2; have := (Own.lt O1'.out g hg).1; have := Ext.size F3; omega)))
  clear O2 G6
  go_wp2_with fail
  refine (laws_heldAttrS_any _ 1 L.length _ (Own.rd O2'.out Att.len) (by omega) (by omega)).mono ?_
  rintro en w7 ⟨rfl, F7⟩
  have E7 := E6.trans F7
  have hx7 : ∀ o, w7.cell? ⟨w.heap.size, o, none⟩ = _ := fun o => Ext.cells E7 _ o (by simp)
  have hne : ((1 : Int) + 4 * (L.length : Int) != 1 + 4 * (L.length : Int)) = false := by simp
  go_wp2_with fail
  clear hx7
  refine (laws_toClass_any x _).mono ?_
  rintro en w8 ⟨rfl, F8⟩
  have E8 := E7.trans F8
  go_wp2_with fail
  refine (impl_ClassAttrs_any x _).mono ?_
  rintro en w9 ⟨v2, rfl, O3, F9⟩
  rw [HL.out] at O3
  have E9 := E8.trans F9
  have O3' := Lib.hid O3
  clear O3
  go_wp2_with fail
  refine (laws_eqAttrS_any _ _ L _ (Own.rd O3'.out Att.len) (Own.rd (Own.ext O0''.out ((F7.trans F8).trans F9)) Att.len) (by omega)).mono ?_
  rintro en w10 ⟨rfl, F10⟩
  have E10 := E9.trans F10
  go_wp2_with fail
  refine (laws_heldAttrS_any _ 1 L.length _ (Own.rd (Own.ext O2'.out (((F7.trans F8).trans F9).trans F10)) Att.len) (by omega) (by omega)).mono ?_
  rintro en w11 ⟨rfl, F11⟩
  have E11 := E10.trans F11
  go_wp2
  go_ret
  exact ⟨rfl, Ext.trans ((Ext.refl _).alloc _) E11⟩

theorem own : ownKnob Try.prog.godebug = none := by kernel_rfl
theorem laidOut : laidOutB Try.prog = true := by kernel_rfl
set_option maxRecDepth 100000 in
theorem lifted (os : Os) (started : os.Started) (H : Type) (enc : TypeId × Value → H) :
    ReturnsInHanded {} Try.checked os 7 .any (Rows.fnExactClassAttrsSpec.pre6 enc Try.prog Try.f7 Rows.fnExactClassAttrsRow.domain false) (Rows.fnExactClassAttrsSpec.post enc Try.prog Try.f7 false true false false) := by
  refine returnsInHanded_of_change (C := Try.checked) own started (by kernel_rfl) Try.func7
    (ChangeSpec.witness6 (enc := enc) (C := Try.checked) false ⟨#[], #[.agg #[.int .i64 0, .int .i64 0, .int .i64 0, .int .i64 0, .int .i64 0, .int .i64 0, .int .i64 0, .int .i64 0]], []⟩ 8 (by kernel_rfl) (by kernel_rfl) (by kernel_rfl) (by kernel_rfl)) ?_
  intro W base args ds gs before hval0 hW hcnd _
  have hval : ∀ (j : Nat) t v, Try.f7.params[j]? = some t → args[j]? = some v → Value.okWide Try.prog W .any base t v := hval0
  have hW' := hW
  obtain ⟨p, q, hA0, hV, rfl, hfz, hnd⟩ := hW
  have hA : DataW.TrodAll enc Try.prog W 0 (fun _ => true) true Try.f7.params.toList args.toList ds p := hA0
  have hAk := hA
  rw [Try.params7] at hA hval
  obtain ⟨v0, vs0, d0, ds0, p0, q0, hargs, rfl, rfl, h0, r0⟩ := trodAll_cons hA
  obtain ⟨rfl, rfl, rfl⟩ := trodAll_nil r0
  obtain rfl : args = #[v0] := by cases args; simp_all
  obtain ⟨rfl, rfl⟩ := trodVars_none hV
  simp only [List.append_nil] at hW' hAk
  refine Calls.mono (R := fun e W' => e = .returned (.bool true) ∧ Ext W W') ?_ (fun e W' hh => ?_)
  rotate_left
  · obtain ⟨rfl, hx⟩ := hh
    exact ⟨_, rfl, law_post laidOut hW' rfl hAk (of_decide_eq_true (by kernel_rfl)) rfl Try.underlying4 rfl rfl rfl hx⟩
  clear hA0 hval0 hW' hAk hfz hnd
  obtain ⟨c0_0, c0_1, c0_2, c0_3, c0_4, c0_5, c0_6, c0_7, y0_0, y0_1, y0_2, y0_3, y0_4, y0_5, y0_6, y0_7, m0, rfl, rfl, rfl, g0_0, g0_1, g0_2, g0_3, g0_4, g0_5, g0_6, g0_7⟩ := open_agg8 Try.underlying41 (by kernel_rfl) (by kernel_rfl) (hval 0 41 v0 rfl rfl) h0
  obtain ⟨a0_0, e0_0, _, wf0_0⟩ := DataW.trod_int Try.underlying3 g0_0
  obtain rfl : c0_0 = .int .i64 a0_0 := by simpa using e0_0
  obtain ⟨a0_1, e0_1, _, wf0_1⟩ := DataW.trod_int Try.underlying3 g0_1
  obtain rfl : c0_1 = .int .i64 a0_1 := by simpa using e0_1
  obtain ⟨a0_2, e0_2, _, wf0_2⟩ := DataW.trod_int Try.underlying3 g0_2
  obtain rfl : c0_2 = .int .i64 a0_2 := by simpa using e0_2
  obtain ⟨a0_3, e0_3, _, wf0_3⟩ := DataW.trod_int Try.underlying3 g0_3
  obtain rfl : c0_3 = .int .i64 a0_3 := by simpa using e0_3
  obtain ⟨a0_4, e0_4, _, wf0_4⟩ := DataW.trod_int Try.underlying3 g0_4
  obtain rfl : c0_4 = .int .i64 a0_4 := by simpa using e0_4
  obtain ⟨a0_5, e0_5, _, wf0_5⟩ := DataW.trod_int Try.underlying3 g0_5
  obtain rfl : c0_5 = .int .i64 a0_5 := by simpa using e0_5
  obtain ⟨a0_6, e0_6, _, wf0_6⟩ := DataW.trod_int Try.underlying3 g0_6
  obtain rfl : c0_6 = .int .i64 a0_6 := by simpa using e0_6
  obtain ⟨a0_7, e0_7, _, wf0_7⟩ := DataW.trod_int Try.underlying3 g0_7
  obtain rfl : c0_7 = .int .i64 a0_7 := by simpa using e0_7
  exact walk a0_0 a0_1 a0_2 a0_3 a0_4 a0_5 a0_6 a0_7 wf0_0 wf0_1 wf0_2 wf0_3 wf0_4 wf0_5 wf0_6 wf0_7 W

theorem over : Rows.fnExactClassAttrsRow.holds Try.pinned (OpenSpec.ofChange Rows.fnExactClassAttrsSpec) :=
  OpenClaim.holds_of_wide 7 Try.f7 rfl rfl rfl rfl rfl rfl rfl ⟨rfl, rfl, rfl, rfl, rfl⟩ rfl rfl rfl rfl rfl (by kernel_rfl) Try.func7 (by kernel_rfl)
    (of_decide_eq_true (by kernel_rfl)) (by unfold Func.isWrapper; first | (rw [if_pos (by decide +kernel)]; kernel_rfl) | (rw [if_neg (by decide +kernel)]; exact ⟨rfl, rfl⟩))
    (fun os started H enc _ => lifted os started H enc)

end Go.Proofs.Ytifhjhgccknndaa.LClassAttrs
namespace Go.Proofs.Ytifhjhgccknndaa
theorem provedFnExactClassAttrs : Rows.FnExactClassAttrsSaid := LClassAttrs.over
#print axioms provedFnExactClassAttrs
end Go.Proofs.Ytifhjhgccknndaa
