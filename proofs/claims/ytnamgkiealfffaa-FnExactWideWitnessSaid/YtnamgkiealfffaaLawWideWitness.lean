/- 'FnExactWideWitness' answers true for every input, and its argument reads as before. No condition. -/
import Derived.Test.YtnamgkiealfffaaRows
import Derived.Test.YtnamgkiealfffaaCfgV
namespace Go.Proofs.Ytnamgkiealfffaa.LWideWitness
open Go.RowKit Go.WideShapes Go.ChangeShapes Go.ChangeAt
set_option maxRecDepth 20000
set_option linter.unusedVariables false
set_option linter.unusedSimpArgs false
set_option maxHeartbeats 4000000
theorem walk (a0 : Int) (wf0 : (Lit.int .i64 a0).wf = true) (w : World) :
    Calls Try.prog 4 #[.int .i64 a0] w fun e w' => e = .returned (.bool true) ∧ Ext w w' := by
  have HS := Lib.hid (spec_WideWitness_any a0)
  have HI := Lib.hid (impl_WideWitness_any a0)
  obtain ⟨hl1, hl2⟩ := wwR_len a0
  generalize wwR a0 = R at HS HI hl1 hl2
  have hok : (R.ok != R.ok) = false := by simp
  have hne : ((1 : Int) + 8 * (R.cls.length : Int) + 5 * (R.flt.length : Int) != 1 + 8 * (R.cls.length : Int) + 5 * (R.flt.length : Int)) = false := by simp
  go_enter Try.func4, Try.ntmps4
  go_wp2_with fail
  refine (HS.out _).mono ?_
  rintro e w1 ⟨c1, f1, rfl, OC1, OF1, F1⟩
  obtain ⟨A1, k1, rfl, _, _⟩ := Own.rd OC1 Cls.len
  obtain ⟨B1, j1, rfl, _, _⟩ := Own.rd OF1 Flt.len
  have HC1 := Lib.hid OC1
  have HF1 := Lib.hid OF1
  clear OC1 OF1
  have X1 := Lib.hid (Box.new w1 R.name (.slice A1 R.cls.length k1) (.slice B1 R.flt.length j1) R.dfl 25)
  have E1 := F1.alloc (.cells #[.string R.name, .slice A1 R.cls.length k1, .slice B1 R.flt.length j1, .int .i64 R.dfl] 25)
  go_wp2_with fail
  refine (HI.out _).mono ?_
  rintro e w2 ⟨c2, f2, rfl, OC2, OF2, F2⟩
  obtain ⟨A2, k2, rfl, _, _⟩ := Own.rd OC2 Cls.len
  obtain ⟨B2, j2, rfl, _, _⟩ := Own.rd OF2 Flt.len
  have HC2 := Lib.hid OC2
  have HF2 := Lib.hid OF2
  clear OC2 OF2
  have X2 := Lib.hid (Box.new w2 R.name (.slice A2 R.cls.length k2) (.slice B2 R.flt.length j2) R.dfl 25)
  have E2 := E1.trans F2
  obtain ⟨q0, q1, q2, q3, _⟩ := X1.out.ext F2
  go_wp2_with fail
  clear q0 q1 q2 q3
  refine (laws_eqConfig_any R.name _ _ _ _ R.dfl R.cls R.flt _ ((Own.rd HC2.out Cls.len).ext ((Ext.refl _).alloc _)) ((Own.rd HF2.out Flt.len).ext ((Ext.refl _).alloc _)) ((Own.rd HC1.out Cls.len).ext (((Ext.refl w1).alloc _).trans (F2.alloc _))) ((Own.rd HF1.out Flt.len).ext (((Ext.refl w1).alloc _).trans (F2.alloc _))) (by omega) (by omega)).mono ?_
  rintro e w3 ⟨rfl, F3⟩
  have G3 := (F2.alloc _).trans F3
  have E3 := E1.trans G3
  obtain ⟨x0, x1, x2, x3, _⟩ := X2.out.ext F3
  go_wp2_with fail
  clear x0 x1 x2 x3
  refine (laws_markConfig_any R.name _ _ R.dfl R.cls R.flt (w1.heap.size + 1) (w1.heap.size + 1) _ (Own.mono (Own.ext HC2.out (((Ext.refl w2).alloc _).trans F3)) (by simp)) (Own.mono (Own.ext HF2.out (((Ext.refl w2).alloc _).trans F3)) (by simp)) (by omega) (by omega)).mono ?_
  rintro e w4 ⟨rfl, OM, OG, K4⟩
  have HM := Lib.hid OM
  have HG := Lib.hid OG
  clear OM OG
  have hlo : ∀ g, (Value.slice A2 R.cls.length k2).ownBlock = some g ∨ (Value.slice B2 R.flt.length j2).ownBlock = some g → w1.heap.size + 1 ≤ g ∧ g < w2.heap.size := fun g hg => hg.elim (fun h => by have := Own.lt HC2.out g h; simpa using this) (fun h => by have := Own.lt HF2.out g h; simpa using this)
  have hs1 := Ext.size F1
  have E4 := E3.kb K4 (fun g hg => by have := (hlo g hg).1; omega)
  have HC1k := Lib.hid ((Own.ext HC1.out (((Ext.refl w1).alloc _).trans G3)).kb K4 (fun g hg h => by have := (hlo g h).1; have := (Own.lt HC1.out g hg).2; omega))
  have HF1k := Lib.hid ((Own.ext HF1.out (((Ext.refl w1).alloc _).trans G3)).kb K4 (fun g hg h => by have := (hlo g h).1; have := (Own.lt HF1.out g hg).2; omega))
  have X1k := Lib.hid ((X1.out.ext G3).kb K4 (fun h => by have := (hlo _ h).1; omega))
  have X2k := Lib.hid ((X2.out.ext F3).kb K4 (fun h => by have := (hlo _ h).2; omega))
  clear K4 hlo
  obtain ⟨x0, x1, x2, x3, _⟩ := X2k.out
  go_wp2_with fail
  clear x0 x1 x2 x3
  refine (laws_heldConfig_any R.name _ _ R.dfl R.cls.length R.flt.length _ (Own.rd HM.out Cls.len) (Own.rd HG.out Flt.len) (by omega) (by omega)).mono ?_
  rintro e w5 ⟨rfl, F5⟩
  go_wp2_with fail
  refine (HI.out _).mono ?_
  rintro e w6 ⟨c6, f6, rfl, OC6, OF6, F6⟩
  obtain ⟨A6, k6, rfl, _, _⟩ := Own.rd OC6 Cls.len
  obtain ⟨B6, j6, rfl, _, _⟩ := Own.rd OF6 Flt.len
  have HC6 := Lib.hid OC6
  have HF6 := Lib.hid OF6
  clear OC6 OF6
  have X6 := Lib.hid (Box.new w6 R.name (.slice A6 R.cls.length k6) (.slice B6 R.flt.length j6) R.dfl 25)
  obtain ⟨q0, q1, q2, q3, _⟩ := X1k.out.ext (F5.trans F6)
  go_wp2_with fail
  clear q0 q1 q2 q3
  refine (laws_eqConfig_any R.name _ _ _ _ R.dfl R.cls R.flt _ ((Own.rd HC6.out Cls.len).ext ((Ext.refl _).alloc _)) ((Own.rd HF6.out Flt.len).ext ((Ext.refl _).alloc _)) ((Own.rd HC1k.out Cls.len).ext ((F5.trans F6).alloc _)) ((Own.rd HF1k.out Flt.len).ext ((F5.trans F6).alloc _)) (by omega) (by omega)).mono ?_
  rintro e w7 ⟨rfl, F7⟩
  have G7 := ((F5.trans F6).alloc _).trans F7
  have E7 := E4.trans G7
  obtain ⟨x0, x1, x2, x3, _⟩ := X2k.out.ext G7
  go_wp2_with fail
  clear x0 x1 x2 x3
  refine (laws_heldConfig_any R.name _ _ R.dfl R.cls.length R.flt.length _ ((Own.rd HM.out Cls.len).ext G7) ((Own.rd HG.out Flt.len).ext G7) (by omega) (by omega)).mono ?_
  rintro e w8 ⟨rfl, F8⟩
  go_wp2
  go_ret
  exact ⟨rfl, E7.trans F8⟩

theorem own : ownKnob Try.prog.godebug = none := by kernel_rfl
theorem laidOut : laidOutB Try.prog = true := by kernel_rfl
set_option maxRecDepth 100000 in
theorem lifted (os : Os) (started : os.Started) (H : Type) (enc : TypeId × Value → H) :
    ReturnsInHanded {} Try.checked os 4 .any (Rows.fnExactWideWitnessSpec.pre6 enc Try.prog Try.f4 Rows.fnExactWideWitnessRow.domain false) (Rows.fnExactWideWitnessSpec.post enc Try.prog Try.f4 false true false false) := by
  refine returnsInHanded_of_change (C := Try.checked) own started (by kernel_rfl) Try.func4
    (ChangeSpec.witness6 (enc := enc) (C := Try.checked) false ⟨#[], #[.int .i64 0], []⟩ 8 (by kernel_rfl) (by kernel_rfl) (by kernel_rfl) (by kernel_rfl)) ?_
  intro W base args ds gs before hval0 hW hcnd _
  have hval : ∀ (j : Nat) t v, Try.f4.params[j]? = some t → args[j]? = some v → Value.okWide Try.prog W .any base t v := hval0
  have hW' := hW
  obtain ⟨p, q, hA0, hV, rfl, hfz, hnd⟩ := hW
  have hA : DataW.TrodAll enc Try.prog W 0 (fun _ => true) true Try.f4.params.toList args.toList ds p := hA0
  have hAk := hA
  rw [Try.params4] at hA hval
  obtain ⟨v0, vs0, d0, ds0, p0, q0, hargs, rfl, rfl, h0, r0⟩ := trodAll_cons hA
  obtain ⟨rfl, rfl, rfl⟩ := trodAll_nil r0
  obtain rfl : args = #[v0] := by cases args; simp_all
  obtain ⟨rfl, rfl⟩ := trodVars_none hV
  simp only [List.append_nil] at hW' hAk
  refine Calls.mono (R := fun e W' => e = .returned (.bool true) ∧ Ext W W') ?_ (fun e W' hh => ?_)
  rotate_left
  · obtain ⟨rfl, hx⟩ := hh
    exact ⟨_, rfl, law_post laidOut hW' rfl hAk (of_decide_eq_true (by kernel_rfl)) rfl Try.underlying4 rfl rfl rfl hx⟩
  clear hA0 hval0 hW' hAk hfz hnd
  obtain ⟨a0, rfl, rfl, rfl, wf0⟩ := open_int Try.underlying3 (hval 0 3 v0 rfl rfl) h0
  exact walk a0 wf0 W

theorem over : Rows.fnExactWideWitnessRow.holds Try.pinned (OpenSpec.ofChange Rows.fnExactWideWitnessSpec) :=
  OpenClaim.holds_of_wide 4 Try.f4 rfl rfl rfl rfl rfl rfl rfl ⟨rfl, rfl, rfl, rfl, rfl⟩ rfl rfl rfl rfl rfl (by kernel_rfl) Try.func4 (by kernel_rfl)
    (of_decide_eq_true (by kernel_rfl)) (by unfold Func.isWrapper; first | (rw [if_pos (by decide +kernel)]; kernel_rfl) | (rw [if_neg (by decide +kernel)]; exact ⟨rfl, rfl⟩))
    (fun os started H enc _ => lifted os started H enc)

end Go.Proofs.Ytnamgkiealfffaa.LWideWitness
namespace Go.Proofs.Ytnamgkiealfffaa
theorem provedFnExactWideWitness : Rows.FnExactWideWitnessSaid := LWideWitness.over
#print axioms provedFnExactWideWitness
end Go.Proofs.Ytnamgkiealfffaa
