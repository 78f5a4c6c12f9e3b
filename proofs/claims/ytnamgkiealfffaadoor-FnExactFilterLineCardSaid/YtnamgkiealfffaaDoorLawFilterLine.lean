/- 'FnExactFilterLine' answers true for every input, and its arguments read as before, the library's tables being as its text lays them. -/
import Derived.Test.YtnamgkiealfffaaDoorCards
import Derived.Test.YtnamgkiealfffaaDoorTie
import Derived.Test.YtnamgkiealfffaaDoorFil
import Derived.Test.YtnamgkiealfffaaDoorFilterS
import Derived.ChangeVars
import Derived.LaidMore
import Derived.Stop.Joined
import Derived.Stop.LaidErr
import Derived.MakeChecks
import Derived.SevenTiedAt
namespace Go.Proofs.YtnamgkiealfffaaDoor.LFilterLine
open Go.RowKit Go.WideShapes Go.ChangeShapes Go.ChangeAt Go.Joins Go.Deep
set_option maxRecDepth 20000
set_option linter.unusedVariables false
set_option linter.unusedSimpArgs false
set_option maxHeartbeats 2000000
theorem spec_FilterLine_any (x : Flt) (w : World) :
    Calls Tryd.prog 9 #[fltW x] w fun e w' => e = .returned (.tuple #[.string (filR x), .bool (filOk x)]) ∧ Ext w w' := by
  have BX := Lib.hid (Blk.new w 32 #[.int .i64 x.prio, .int .i64 x.field, .int .i64 x.mask, .int .i64 x.value, .int .i64 x.target])
  cases h1 : filB1 x
  · have HC := Lib.hid (show filOk x = false by rw [filOk, h1]; rfl)
    have HR := Lib.hid (show filR x = ⟨#[]⟩ by rw [filR, HC.out]; rfl)
    have H1 := Lib.hid h1
    go_enter Tryd.func9, Tryd.ntmps9
    go_wp2_with fail
    refine (spec_cfFilter_any x _).mono ?_
    rintro e w1 ⟨rfl, F1⟩
    rw [H1.out]
    go_wp2
    (refine bodyPost_ret (v := .tuple #[.string ⟨#[]⟩, .bool false]) (by simp [results, Tryd.results9, go_sem, *]) rfl ⟨?_, ?_⟩)
    · rw [HR.out, HC.out]
    · (repeat (first | (with_reducible exact Ext.refl _) | (with_reducible assumption) | (with_reducible apply Ext.alloc) | (with_reducible apply Ext.drew) | (with_reducible apply Ext.drewN) | ((with_reducible refine Ext.setCell ?_ ?_ _); rotate_left; (focus (first | (simp; done) | (simp; omega) | omega))) | (with_reducible refine Ext.trans ?_ (by assumption))))
  cases h2 : inR x.target 1 999
  · have HC := Lib.hid (show filOk x = false by rw [filOk, h1, h2]; rfl)
    have HR := Lib.hid (show filR x = ⟨#[]⟩ by rw [filR, HC.out]; rfl)
    have H1 := Lib.hid h1
    go_enter Tryd.func9, Tryd.ntmps9
    go_wp2_with fail
    refine (spec_cfFilter_any x _).mono ?_
    rintro e w1 ⟨rfl, F1⟩
    rw [H1.out]
    obtain ⟨x0, x1, x2, x3, x4, x5⟩ := bcF (BX.out.ext F1)
    go_wp2_with (go_at_call 22; refine (spec_l1In_any _ _ _ _ ).mono ?_; rintro e w' ⟨rfl, rfl⟩)
    (refine bodyPost_ret (v := .tuple #[.string ⟨#[]⟩, .bool false]) (by simp [results, Tryd.results9, go_sem, *]) rfl ⟨?_, ?_⟩)
    · rw [HR.out, HC.out]
    · (repeat (first | (with_reducible exact Ext.refl _) | (with_reducible assumption) | (with_reducible apply Ext.alloc) | (with_reducible apply Ext.drew) | (with_reducible apply Ext.drewN) | ((with_reducible refine Ext.setCell ?_ ?_ _); rotate_left; (focus (first | (simp; done) | (simp; omega) | omega))) | (with_reducible refine Ext.trans ?_ (by assumption))))
  have HC := Lib.hid (show filOk x = true by rw [filOk, h1, h2]; rfl)
  have HR := Lib.hid (show filR x = filT x by rw [filR, HC.out]; rfl)
  have H1 := Lib.hid h1
  go_enter Tryd.func9, Tryd.ntmps9
  go_wp2_with fail
  refine (spec_cfFilter_any x _).mono ?_
  rintro e w1 ⟨rfl, F1⟩
  rw [H1.out]
  obtain ⟨x0, x1, x2, x3, x4, x5⟩ := bcF (BX.out.ext F1)
  go_wp2_with (first | (go_at_call 22; refine (spec_l1In_any _ _ _ _ ).mono ?_; rintro e w' ⟨rfl, rfl⟩) | (go_at_call 23; refine (spec_prFilter_any x _ HC.out).mono ?_; rintro e w3 ⟨rfl, F3⟩))
  (refine bodyPost_ret (v := .tuple #[.string (filT x), .bool true]) (by simp [results, Tryd.results9, go_sem, *]) rfl ⟨?_, ?_⟩)
  · rw [HR.out, HC.out]
  · (repeat (first | (with_reducible exact Ext.refl _) | (with_reducible assumption) | (with_reducible apply Ext.alloc) | (with_reducible apply Ext.drew) | (with_reducible apply Ext.drewN) | ((with_reducible refine Ext.setCell ?_ ?_ _); rotate_left; (focus (first | (simp; done) | (simp; omega) | omega))) | (with_reducible refine Ext.trans ?_ (by assumption))))
theorem impl_FilterLine_any (x : Flt) (w : World) (hk : PowTab w) :
    Calls Tryd.prog 11 #[fltW x] w fun e w' => e = .returned (.tuple #[.string (filR x), .bool (filOk x)]) ∧ Ext w w' := by
  have E0 := (Ext.refl w).alloc (.cells #[.int .i64 x.prio, .int .i64 x.field, .int .i64 x.mask, .int .i64 x.value, .int .i64 x.target] 32)
  have HK := Lib.hid (hk.ext E0)
  clear hk
  have BX := Lib.hid (Blk.new w 32 #[.int .i64 x.prio, .int .i64 x.field, .int .i64 x.mask, .int .i64 x.value, .int .i64 x.target])
  cases h1 : filB1 x
  · have HC := Lib.hid (show filOk x = false by rw [filOk, h1]; rfl)
    have HR := Lib.hid (show filR x = ⟨#[]⟩ by rw [filR, HC.out]; rfl)
    have H1 := Lib.hid h1
    go_enter Tryd.func11, Tryd.ntmps11
    go_wp2_with fail
    refine (impl_filterRight_any x _).mono ?_
    rintro e w1 ⟨rfl, F1⟩
    rw [H1.out]
    go_wp2
    (refine bodyPost_ret (v := .tuple #[.string ⟨#[]⟩, .bool false]) (by simp [results, Tryd.results11, go_sem, *]) rfl ⟨?_, ?_⟩)
    · rw [HR.out, HC.out]
    · (repeat (first | (with_reducible exact Ext.refl _) | (with_reducible assumption) | (with_reducible apply Ext.alloc) | (with_reducible apply Ext.drew) | (with_reducible apply Ext.drewN) | ((with_reducible refine Ext.setCell ?_ ?_ _); rotate_left; (focus (first | (simp; done) | (simp; omega) | omega))) | (with_reducible refine Ext.trans ?_ (by assumption))))
  cases h2 : inR x.target 1 999
  · have HC := Lib.hid (show filOk x = false by rw [filOk, h1, h2]; rfl)
    have HR := Lib.hid (show filR x = ⟨#[]⟩ by rw [filR, HC.out]; rfl)
    have H1 := Lib.hid h1
    go_enter Tryd.func11, Tryd.ntmps11
    go_wp2_with fail
    refine (impl_filterRight_any x _).mono ?_
    rintro e w1 ⟨rfl, F1⟩
    rw [H1.out]
    obtain ⟨x0, x1, x2, x3, x4, x5⟩ := bcF (BX.out.ext F1)
    go_wp2_with (go_at_call 17; refine (impl_isId_any _ _ ).mono ?_; rintro e w' ⟨rfl, rfl⟩)
    (refine bodyPost_ret (v := .tuple #[.string ⟨#[]⟩, .bool false]) (by simp [results, Tryd.results11, go_sem, *]) rfl ⟨?_, ?_⟩)
    · rw [HR.out, HC.out]
    · (repeat (first | (with_reducible exact Ext.refl _) | (with_reducible assumption) | (with_reducible apply Ext.alloc) | (with_reducible apply Ext.drew) | (with_reducible apply Ext.drewN) | ((with_reducible refine Ext.setCell ?_ ?_ _); rotate_left; (focus (first | (simp; done) | (simp; omega) | omega))) | (with_reducible refine Ext.trans ?_ (by assumption))))
  have HC := Lib.hid (show filOk x = true by rw [filOk, h1, h2]; rfl)
  have HR := Lib.hid (show filR x = filT x by rw [filR, HC.out]; rfl)
  have H1 := Lib.hid h1
  go_enter Tryd.func11, Tryd.ntmps11
  go_wp2_with fail
  refine (impl_filterRight_any x _).mono ?_
  rintro e w1 ⟨rfl, F1⟩
  rw [H1.out]
  obtain ⟨x0, x1, x2, x3, x4, x5⟩ := bcF (BX.out.ext F1)
  go_wp2_with (first | (go_at_call 17; refine (impl_isId_any _ _ ).mono ?_; rintro e w' ⟨rfl, rfl⟩) | (go_at_call 25; refine (impl_filterLine_any x _ HC.out (HK.out.ext F1)).mono ?_; rintro e w3 ⟨rfl, F3⟩))
  (refine bodyPost_ret (v := .tuple #[.string (filT x), .bool true]) (by simp [results, Tryd.results11, go_sem, *]) rfl ⟨?_, ?_⟩)
  · rw [HR.out, HC.out]
  · (repeat (first | (with_reducible exact Ext.refl _) | (with_reducible assumption) | (with_reducible apply Ext.alloc) | (with_reducible apply Ext.drew) | (with_reducible apply Ext.drewN) | ((with_reducible refine Ext.setCell ?_ ?_ _); rotate_left; (focus (first | (simp; done) | (simp; omega) | omega))) | (with_reducible refine Ext.trans ?_ (by assumption))))
theorem walk {w : World} (hk : PowTab w) (x : Flt) :
    Calls Tryd.prog 4 #[fltW x] w fun e w' => e = .returned (.bool true) ∧ Ext w w' := by
  have E0 := (Ext.refl w).alloc (.cells #[.int .i64 x.prio, .int .i64 x.field, .int .i64 x.mask, .int .i64 x.value, .int .i64 x.target] 30)
  have HK := Lib.hid (hk.ext E0)
  clear hk
  have BX := Lib.hid (Blk.new w 30 #[.int .i64 x.prio, .int .i64 x.field, .int .i64 x.mask, .int .i64 x.value, .int .i64 x.target])
  go_enter Tryd.func4, Tryd.ntmps4
  go_wp2_with fail
  refine (laws_toFilter_any x _).mono ?_
  rintro e w1 ⟨rfl, F1⟩
  go_wp2_with fail
  refine (spec_FilterLine_any x _).mono ?_
  rintro e w2 ⟨rfl, F2⟩
  have G2 := F1.trans F2
  obtain ⟨x0, x1, x2, x3, x4, x5⟩ := bcF (BX.out.ext G2)
  go_wp2_with fail
  refine (laws_toFilter_any x _).mono ?_
  rintro e w3 ⟨rfl, F3⟩
  have G3 := G2.trans F3
  clear x0 x1 x2 x3 x4 x5
  go_wp2_with fail
  refine (impl_FilterLine_any x _ (HK.out.ext G3)).mono ?_
  rintro e w4 ⟨rfl, F4⟩
  cases hc : filOk x
  all_goals
    go_wp2
    go_ret
    exact ⟨rfl, E0.trans (G3.trans F4)⟩

theorem own : ownKnob Tryd.prog.godebug = none := by kernel_rfl
theorem laidOut : laidOutB Tryd.prog = true := by kernel_rfl
set_option maxRecDepth 100000 in
theorem door_met (os : Os) (args : Array Value) : laidMetH Tryd.prog Rows.fnExactFilterLineRow.laid ((World.doorLaid Tryd.prog 400 os).forCall (fun _ _ => 0) ⟨#[], args, []⟩).memory :=
  laidMetH_of_parts3 (fuel := 8) (laidMet_of_run' 8 (by kernel_rfl) (by kernel_rfl)) (by kernel_rfl) (by kernel_rfl)
theorem pow_of_laid {W : World} (h : laidMetH Tryd.prog Rows.fnExactFilterLineRow.laid W) : PowTab W := by
  rw [MakeChecks.laidMetH_plain _ _ _ (by kernel_rfl)] at h
  have h2 := h.tail.tail
  exact Lib.tabIs_of_head (g := 4) (by kernel_rfl) (by kernel_rfl) Tryd.underlying101 Tryd.underlying79 (by kernel_rfl) (by kernel_rfl) h2
set_option maxRecDepth 100000 in
theorem lifted (os : Os) (started : os.Started) (H : Type) (enc : TypeId × Value → H) :
    ReturnsInHanded {} Tryd.checked os 4 .any (fun w args => (Rows.fnExactFilterLineSpec.pre enc Tryd.prog Tryd.f4 Rows.fnExactFilterLineRow.domain false w args ∧ laidMetH Tryd.prog Rows.fnExactFilterLineRow.laid w) ∧ sizedMet enc Tryd.prog Tryd.f4 (OpenSpec.ofChange Rows.fnExactFilterLineSpec) false w args)
      (Rows.fnExactFilterLineSpec.post enc Tryd.prog Tryd.f4 false true false false) := by
  refine returnsInHanded_of_change_and (C := Tryd.checked) (X := fun w _ => laidMetH Tryd.prog Rows.fnExactFilterLineRow.laid w) (fun _ _ _ hh h => h.of_heap hh) own started (by kernel_rfl) Tryd.func4
    (ChangeSpec.witness_shaped (enc := enc) (C := Tryd.checked) (os := os) (X := fun w _ => laidMetH Tryd.prog Rows.fnExactFilterLineRow.laid w) false (World.doorLaid Tryd.prog 400 os) #[.agg #[.int .i64 0, .int .i64 0, .int .i64 0, .int .i64 0, .int .i64 0]] 8 rfl (World.shaped_of_RefB (by kernel_rfl) (by kernel_rfl)) (by kernel_rfl) (by kernel_rfl) (by kernel_rfl) (door_met os _)) ?_
  intro W base args ds gs before hval0 hW hcnd _ hL _
  have hval : ∀ (j : Nat) t v, Tryd.f4.params[j]? = some t → args[j]? = some v → Value.okWide Tryd.prog W .any base t v := hval0
  have hW' := hW
  obtain ⟨p, q, hA0, hV, rfl, hfz, hnd⟩ := hW
  have hA : DataW.TrodAll enc Tryd.prog W 0 (fun _ => true) true Tryd.f4.params.toList args.toList ds p := hA0
  have hAk := hA
  have hK : PowTab W := pow_of_laid hL
  rw [Tryd.params4] at hA hval
  obtain ⟨v0, vs0, d0, ds0, p0, q0, hargs, rfl, rfl, h0, r0⟩ := trodAll_cons hA
  obtain ⟨rfl, rfl, rfl⟩ := trodAll_nil r0
  obtain rfl : args = #[v0] := by cases args; simp_all
  obtain ⟨rfl, rfl⟩ := trodVars_none hV
  simp only [List.append_nil] at hW' hAk
  refine Calls.mono (R := fun e W' => e = .returned (.bool true) ∧ Ext W W') ?_ (fun e W' hh => ?_)
  rotate_left
  · obtain ⟨rfl, hx⟩ := hh
    exact ⟨_, rfl, law_post laidOut hW' rfl hAk (of_decide_eq_true (by kernel_rfl)) rfl Tryd.underlying4 rfl rfl rfl hx⟩
  clear hA0 hval0 hW' hAk hfz hnd hV hL
  obtain ⟨c0_0, c0_1, c0_2, c0_3, c0_4, y0_0, y0_1, y0_2, y0_3, y0_4, m0, rfl, rfl, rfl, g0_0, g0_1, g0_2, g0_3, g0_4⟩ := open_agg5 Tryd.underlying30 (by kernel_rfl) (by kernel_rfl) (hval 0 30 v0 rfl rfl) h0
  obtain ⟨a0_0, e0_0, _, wf0_0⟩ := DataW.trod_int Tryd.underlying3 g0_0
  obtain rfl : c0_0 = .int .i64 a0_0 := by simpa using e0_0
  obtain ⟨a0_1, e0_1, _, wf0_1⟩ := DataW.trod_int Tryd.underlying3 g0_1
  obtain rfl : c0_1 = .int .i64 a0_1 := by simpa using e0_1
  obtain ⟨a0_2, e0_2, _, wf0_2⟩ := DataW.trod_int Tryd.underlying3 g0_2
  obtain rfl : c0_2 = .int .i64 a0_2 := by simpa using e0_2
  obtain ⟨a0_3, e0_3, _, wf0_3⟩ := DataW.trod_int Tryd.underlying3 g0_3
  obtain rfl : c0_3 = .int .i64 a0_3 := by simpa using e0_3
  obtain ⟨a0_4, e0_4, _, wf0_4⟩ := DataW.trod_int Tryd.underlying3 g0_4
  obtain rfl : c0_4 = .int .i64 a0_4 := by simpa using e0_4
  exact walk (w := W) hK ⟨a0_0, a0_1, a0_2, a0_3, a0_4⟩

theorem over : Rows.fnExactFilterLineRow.holds Tryd.pinned (OpenSpec.ofChange Rows.fnExactFilterLineSpec) :=
  OpenClaim.holds_of_wide 4 Tryd.f4 rfl rfl rfl rfl rfl rfl rfl ⟨rfl, rfl, rfl, rfl, rfl⟩ rfl rfl rfl rfl rfl (by kernel_rfl) Tryd.func4 (by kernel_rfl)
    (of_decide_eq_true (by kernel_rfl)) (by unfold Func.isWrapper; first | (rw [if_pos (by decide +kernel)]; kernel_rfl) | (rw [if_neg (by decide +kernel)]; exact ⟨rfl, rfl⟩))
    (fun os started H enc _ => lifted os started H enc)

theorem card : Claim7.holds Tryd.pinned (.plain (OpenSpec.ofChange Rows.fnExactFilterLineSpec)) Rows.fnExactFilterLineCard :=
  Claim7.holds_tied_plain_at .later [] [.data, .data, .data] true Rows.fnExactFilterLineCard.stood.harness true
    over (fun _ h => by cases h) (by kernel_rfl) (fun _ h => by cases h) fnExactFilterLine_row_tie rfl ⟨rfl, rfl⟩ (by kernel_rfl) rfl
    (fun f fn hf hfn => by
      obtain rfl : f = 4 := Option.some.inj ((show Tryd.prog.funcNamed Rows.fnExactFilterLineRow.func = some 4 by kernel_rfl).symm.trans hf) |>.symm
      obtain rfl : fn = Tryd.f4 := (Option.some.inj (Tryd.func4.symm.trans hfn)).symm
      exact ⟨by kernel_rfl, fun j t ht => by
        rw [Tryd.params4] at ht
        match j, ht with
        | 0, ht => obtain rfl : 30 = t := (by simpa using ht); exact (show Tryd.prog.wantsStandIn 30 = false by kernel_rfl)
        | j + 1, ht => simp at ht⟩)
    (by kernel_rfl)
end Go.Proofs.YtnamgkiealfffaaDoor.LFilterLine
namespace Go.Proofs.YtnamgkiealfffaaDoor
theorem provedFnExactFilterLine : Rows.FnExactFilterLineCardSaid := LFilterLine.card
#print axioms provedFnExactFilterLine
end Go.Proofs.YtnamgkiealfffaaDoor

