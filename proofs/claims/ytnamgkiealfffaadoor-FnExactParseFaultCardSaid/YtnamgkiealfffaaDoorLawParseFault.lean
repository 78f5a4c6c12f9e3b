/- 'FnExactParseFault' answers true for every input, and its argument reads as before, the variables that it reads being as the program's text lays them. -/
import Derived.Test.YtnamgkiealfffaaDoorCards
import Derived.Test.YtnamgkiealfffaaDoorTie
import Derived.Test.YtnamgkiealfffaaDoorPfL
import Derived.SevenTiedAt
namespace Go.Proofs.YtnamgkiealfffaaDoor.LParseFault
open Go.RowKit Go.WideShapes Go.ChangeShapes Go.ChangeAt Go.Joins Go.Deep
set_option maxRecDepth 20000
set_option linter.unusedVariables false
set_option linter.unusedSimpArgs false
set_option maxHeartbeats 2000000
theorem walk {w : World} (ht : Tabs w) (s : ByteArray) :
    Calls Tryd.prog 5 #[.string s] w fun e w' => e = .returned (.bool true) ∧ Ext w w' := by
  have HT := Lib.hid ht
  clear ht
  by_cases hs : s.size ≤ 1048576
  rotate_left
  · go_enter Tryd.func5, Tryd.ntmps5
    go_wp2
    go_ret
    exact ⟨rfl, Ext.refl _⟩
  go_enter Tryd.func5, Tryd.ntmps5
  go_wp2_with fail
  refine (spec_ParseFault_any s _ hs).mono ?_
  rintro e w1 ⟨k, n, ok, rfl, h1, F1⟩
  have H1 := Lib.hid h1
  clear h1
  have BX := Lib.hid (Blk.new w1 36 #[.int .i64 k, .int .i64 n])
  go_wp2_with fail
  refine (impl_ParseFault_any s _ hs (HT.out.ext (by (repeat (first | (with_reducible exact Ext.refl _) | (with_reducible assumption) | (with_reducible apply Ext.alloc) | (with_reducible apply Ext.drew) | (with_reducible apply Ext.drewN) | ((with_reducible refine Ext.setCell ?_ ?_ _); rotate_left; (focus (first | (simp; done) | (simp; omega) | omega))) | (with_reducible refine Ext.trans ?_ (by assumption))))))).mono ?_
  rintro e w2 ⟨k', n', ok', rfl, h2, F2⟩
  obtain ⟨rfl, rfl, rfl⟩ := ans_one H1.out h2
  clear h2
  obtain ⟨x0, x1, x2⟩ := bc2 (BX.out.ext F2)
  have hok : (ok != ok) = false := by simp
  have y0 := row_ext x0 ((Ext.refl w2).alloc (.cells #[.int .i64 k, .int .i64 n] 36))
  have y1 := row_ext x1 ((Ext.refl w2).alloc (.cells #[.int .i64 k, .int .i64 n] 36))
  go_wp2_with (first | (go_at_call 14; refine (laws_eqFault_same k n _).mono ?_; rintro e w3 ⟨rfl, F3⟩))
  go_ret
  exact ⟨rfl, by (repeat (first | (with_reducible exact Ext.refl _) | (with_reducible assumption) | (with_reducible apply Ext.alloc) | (with_reducible apply Ext.drew) | (with_reducible apply Ext.drewN) | ((with_reducible refine Ext.setCell ?_ ?_ _); rotate_left; (focus (first | (simp; done) | (simp; omega) | omega))) | (with_reducible refine Ext.trans ?_ (by assumption))))⟩

theorem own : ownKnob Tryd.prog.godebug = none := by kernel_rfl
theorem laidOut : laidOutB Tryd.prog = true := by kernel_rfl
set_option maxRecDepth 100000 in
theorem door_met (os : Os) (args : Array Value) : laidMetH Tryd.prog Rows.fnExactParseFaultRow.laid ((World.doorLaid Tryd.prog 400 os).forCall (fun _ _ => 0) ⟨#[], args, []⟩).memory :=
  laidMetH_of_parts3 (fuel := 8) (laidMet_of_run' 8 (by kernel_rfl) (by kernel_rfl)) (by kernel_rfl) (by kernel_rfl)
set_option maxRecDepth 100000 in
theorem lifted (os : Os) (started : os.Started) (H : Type) (enc : TypeId × Value → H) :
    ReturnsInHanded {} Tryd.checked os 5 .any (fun w args => (Rows.fnExactParseFaultSpec.pre enc Tryd.prog Tryd.f5 Rows.fnExactParseFaultRow.domain false w args ∧ laidMetH Tryd.prog Rows.fnExactParseFaultRow.laid w) ∧ sizedMet enc Tryd.prog Tryd.f5 (OpenSpec.ofChange Rows.fnExactParseFaultSpec) false w args)
      (Rows.fnExactParseFaultSpec.post enc Tryd.prog Tryd.f5 false true false false) := by
  refine returnsInHanded_shaped_and (C := Tryd.checked) (X := fun w _ => laidMetH Tryd.prog Rows.fnExactParseFaultRow.laid w) (fun _ _ _ hh h => h.of_heap hh) own started (by kernel_rfl) Tryd.func5
    (ChangeSpec.witness_shaped (enc := enc) (C := Tryd.checked) (os := os) (X := fun w _ => laidMetH Tryd.prog Rows.fnExactParseFaultRow.laid w) false (World.doorLaid Tryd.prog 400 os) #[.string ⟨#[]⟩] 8 rfl (World.shaped_of_RefB (by kernel_rfl) (by kernel_rfl)) (by kernel_rfl) (by kernel_rfl) (by kernel_rfl) (door_met os _)) ?_
  intro W base args ds gs before hval0 hW hL hsh
  have hval : ∀ (j : Nat) t v, Tryd.f5.params[j]? = some t → args[j]? = some v → Value.okWide Tryd.prog W .any base t v := hval0
  have hW' := hW
  obtain ⟨p, q, hA0, hV0, hbe, hfz, hnd⟩ := hW
  have hA : DataW.TrodAll enc Tryd.prog W 0 (fun _ => true) true Tryd.f5.params.toList args.toList ds p := hA0
  have hAk := hA
  have hV : DataW.TrodVars enc Tryd.prog W (fun _ => true) Rows.fnExactParseFaultSpec.vars gs q := hV0
  have hK : Tabs W := tabs_of_laid hL hsh
  rw [Tryd.params5] at hA hval
  obtain ⟨v0, vs0, d0, ds0, p0, q0, hargs, rfl, rfl, h0, r0⟩ := trodAll_cons hA
  obtain ⟨rfl, rfl, rfl⟩ := trodAll_nil r0
  obtain rfl : args = #[v0] := by cases args; simp_all
  simp only [List.append_nil] at hW' hAk hbe
  refine Calls.mono (R := fun e W' => e = .returned (.bool true) ∧ Ext W W') ?_ (fun e W' hh => ?_)
  rotate_left
  · obtain ⟨rfl, hx⟩ := hh
    obtain ⟨hgs, hvars⟩ := vars_stay hL hV hx
    subst hgs
    exact ⟨_, rfl, law_postV laidOut hW' hbe hAk (of_decide_eq_true (by kernel_rfl)) rfl Tryd.underlying4 rfl rfl rfl (fun sp => hvars sp) hx⟩
  clear hA0 hval0 hW' hAk hfz hnd hV hV0 hL
  obtain ⟨a0, rfl, rfl, rfl, wf0⟩ := Go.ChangeMaps.open_string Tryd.underlying9 (hval 0 9 v0 rfl rfl) h0
  exact walk (w := W) hK a0

theorem over : Rows.fnExactParseFaultRow.holds Tryd.pinned (OpenSpec.ofChange Rows.fnExactParseFaultSpec) :=
  OpenClaim.holds_of_wide 5 Tryd.f5 rfl rfl rfl rfl rfl rfl rfl ⟨rfl, rfl, rfl, rfl, rfl⟩ rfl rfl rfl rfl rfl (by kernel_rfl) Tryd.func5 (by kernel_rfl)
    (of_decide_eq_true (by kernel_rfl)) (by unfold Func.isWrapper; first | (rw [if_pos (by decide +kernel)]; kernel_rfl) | (rw [if_neg (by decide +kernel)]; exact ⟨rfl, rfl⟩))
    (fun os started H enc _ => lifted os started H enc)

theorem card : Claim7.holds Tryd.pinned (.plain (OpenSpec.ofChange Rows.fnExactParseFaultSpec)) Rows.fnExactParseFaultCard :=
  Claim7.holds_tied_plain_at .later [] [.data, .data, .data, .sentinel, .sentinel, .data] true Rows.fnExactParseFaultCard.stood.harness true
    over (fun _ h => by cases h) (by kernel_rfl) (fun _ h => by cases h) fnExactParseFault_row_tie rfl ⟨rfl, rfl⟩ (by kernel_rfl) rfl
    (fun f fn hf hfn => by
      obtain rfl : f = 5 := Option.some.inj ((show Tryd.prog.funcNamed Rows.fnExactParseFaultRow.func = some 5 by kernel_rfl).symm.trans hf) |>.symm
      obtain rfl : fn = Tryd.f5 := (Option.some.inj (Tryd.func5.symm.trans hfn)).symm
      exact ⟨by kernel_rfl, fun j t ht => by
        rw [Tryd.params5] at ht
        match j, ht with
        | 0, ht => obtain rfl : 9 = t := (by simpa using ht); exact (show Tryd.prog.wantsStandIn 9 = false by kernel_rfl)
        | j + 1, ht => simp at ht⟩)
    (by kernel_rfl)
end Go.Proofs.YtnamgkiealfffaaDoor.LParseFault
namespace Go.Proofs.YtnamgkiealfffaaDoor
theorem provedFnExactParseFault : Rows.FnExactParseFaultCardSaid := LParseFault.card
#print axioms provedFnExactParseFault
end Go.Proofs.YtnamgkiealfffaaDoor
