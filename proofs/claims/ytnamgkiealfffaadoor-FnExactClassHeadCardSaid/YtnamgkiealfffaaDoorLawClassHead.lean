/- 'FnExactClassHead' answers true for every input, and its arguments read as before, the library's tables being as its text lays them. -/
import Derived.Test.YtnamgkiealfffaaDoorCards
import Derived.Test.YtnamgkiealfffaaDoorTie
import Derived.Test.YtnamgkiealfffaaDoorTxt3
import Derived.Test.YtnamgkiealfffaaDoorClassS
import Derived.ChangeVars
import Derived.LaidMore
import Derived.Stop.Joined
import Derived.Stop.LaidErr
import Derived.MakeChecks
import Derived.SevenTiedAt
namespace Go.Proofs.YtnamgkiealfffaaDoor.LClassHead
open Go.RowKit Go.WideShapes Go.ChangeShapes Go.ChangeAt Go.Joins Go.Deep
set_option maxRecDepth 20000
set_option linter.unusedVariables false
set_option linter.unusedSimpArgs false
set_option maxHeartbeats 2000000
def headR (x : Cls) : ByteArray := if clsB x then headT x else ⟨#[]⟩
theorem bcC {w : World} {g : Nat} {T : TypeId} {a0 a1 a2 a3 a4 a5 a6 a7 : Value} (h : Blk w g T #[a0, a1, a2, a3, a4, a5, a6, a7]) : w.cell? ⟨g, 0, none⟩ = some a0 ∧ w.cell? ⟨g, 1, none⟩ = some a1 ∧ w.cell? ⟨g, 2, none⟩ = some a2 ∧ w.cell? ⟨g, 3, none⟩ = some a3 ∧ w.cell? ⟨g, 4, none⟩ = some a4 ∧ w.cell? ⟨g, 5, none⟩ = some a5 ∧ w.cell? ⟨g, 6, none⟩ = some a6 ∧ w.cell? ⟨g, 7, none⟩ = some a7 ∧ g < w.heap.size := by
  have hl := h.lt
  unfold Blk at h
  exact ⟨by simp [World.cell?, h], by simp [World.cell?, h], by simp [World.cell?, h], by simp [World.cell?, h], by simp [World.cell?, h], by simp [World.cell?, h], by simp [World.cell?, h], by simp [World.cell?, h], hl⟩
theorem spec_ClassHead_any (x : Cls) (w : World) :
    Calls Tryd.prog 6 #[clsV x] w fun e w' => e = .returned (.tuple #[.string (headR x), .bool (clsB x)]) ∧ Ext w w' := by
  have BX := Lib.hid (Blk.new w 26 #[.int .i64 x.id, .int .i64 x.parent, .int .i64 x.rate, .int .i64 x.ceil, .int .i64 x.burst, .int .i64 x.cburst, .int .i64 x.prio, .int .i64 x.limit])
  cases hc : clsB x
  · have HR := Lib.hid (show headR x = ⟨#[]⟩ by rw [headR, hc]; rfl)
    have HC := Lib.hid hc
    go_enter Tryd.func6, Tryd.ntmps6
    go_wp2_with fail
    refine (spec_cfClass_any x _).mono ?_
    rintro e w1 ⟨rfl, F1⟩
    rw [HC.out]
    go_wp2
    (refine bodyPost_ret (v := .tuple #[.string ⟨#[]⟩, .bool false]) (by simp [results, Tryd.results6, go_sem, *]) rfl ⟨?_, ?_⟩)
    · rw [HR.out]
    · (repeat (first | (with_reducible exact Ext.refl _) | (with_reducible assumption) | (with_reducible apply Ext.alloc) | (with_reducible apply Ext.drew) | (with_reducible apply Ext.drewN) | ((with_reducible refine Ext.setCell ?_ ?_ _); rotate_left; (focus (first | (simp; done) | (simp; omega) | omega))) | (with_reducible refine Ext.trans ?_ (by assumption))))
  · have HR := Lib.hid (show headR x = headT x by rw [headR, hc]; rfl)
    have HC := Lib.hid hc
    go_enter Tryd.func6, Tryd.ntmps6
    go_wp2_with fail
    refine (spec_cfClass_any x _).mono ?_
    rintro e w1 ⟨rfl, F1⟩
    rw [HC.out]
    obtain ⟨x0, x1, x2, x3, x4, x5, x6, x7, x8⟩ := bcC (BX.out.ext F1)
    go_wp2_with fail
    refine (spec_prHead_any x _ HC.out).mono ?_
    rintro e w2 ⟨rfl, F2⟩
    clear x0 x1 x2 x3 x4 x5 x6 x7 x8
    go_wp2
    (refine bodyPost_ret (v := .tuple #[.string (headT x), .bool true]) (by simp [results, Tryd.results6, go_sem, *]) rfl ⟨?_, ?_⟩)
    · rw [HR.out]
    · (repeat (first | (with_reducible exact Ext.refl _) | (with_reducible assumption) | (with_reducible apply Ext.alloc) | (with_reducible apply Ext.drew) | (with_reducible apply Ext.drewN) | ((with_reducible refine Ext.setCell ?_ ?_ _); rotate_left; (focus (first | (simp; done) | (simp; omega) | omega))) | (with_reducible refine Ext.trans ?_ (by assumption))))
theorem impl_ClassHead_any (x : Cls) (w : World) (hk : PowTab w) :
    Calls Tryd.prog 8 #[clsV x] w fun e w' => e = .returned (.tuple #[.string (headR x), .bool (clsB x)]) ∧ Ext w w' := by
  have E0 := (Ext.refl w).alloc (.cells #[.int .i64 x.id, .int .i64 x.parent, .int .i64 x.rate, .int .i64 x.ceil, .int .i64 x.burst, .int .i64 x.cburst, .int .i64 x.prio, .int .i64 x.limit] 26)
  have HK := Lib.hid (hk.ext E0)
  clear hk
  have BX := Lib.hid (Blk.new w 26 #[.int .i64 x.id, .int .i64 x.parent, .int .i64 x.rate, .int .i64 x.ceil, .int .i64 x.burst, .int .i64 x.cburst, .int .i64 x.prio, .int .i64 x.limit])
  have HCR := Lib.hid (cls_rate x)
  cases h1 : inR x.id 1 999
  · have HC := Lib.hid (show clsB x = false by rw [HCR.out, h1]; rfl)
    have HR := Lib.hid (show headR x = ⟨#[]⟩ by rw [headR, HC.out]; rfl)
    go_enter Tryd.func8, Tryd.ntmps8
    go_wp2_with (go_at_call 17; refine (impl_isId_any _ _ ).mono ?_; rintro e w' ⟨rfl, rfl⟩)
    (refine bodyPost_ret (v := .tuple #[.string ⟨#[]⟩, .bool false]) (by simp [results, Tryd.results8, go_sem, *]) rfl ⟨?_, ?_⟩)
    · rw [HR.out, HC.out]
    · (repeat (first | (with_reducible exact Ext.refl _) | (with_reducible assumption) | (with_reducible apply Ext.alloc) | (with_reducible apply Ext.drew) | (with_reducible apply Ext.drewN) | ((with_reducible refine Ext.setCell ?_ ?_ _); rotate_left; (focus (first | (simp; done) | (simp; omega) | omega))) | (with_reducible refine Ext.trans ?_ (by assumption))))
  cases h2 : rateB x
  · have HC := Lib.hid (show clsB x = false by rw [HCR.out, h1, h2]; rfl)
    have HR := Lib.hid (show headR x = ⟨#[]⟩ by rw [headR, HC.out]; rfl)
    go_enter Tryd.func8, Tryd.ntmps8
    go_wp2_with (first | (go_at_call 17; refine (impl_isId_any _ _ ).mono ?_; rintro e w' ⟨rfl, rfl⟩) | (go_at_call 18; refine (impl_rateRight_any x _).mono ?_; rintro e w1 ⟨rfl, F1⟩))
    (refine bodyPost_ret (v := .tuple #[.string ⟨#[]⟩, .bool false]) (by simp [results, Tryd.results8, go_sem, *]) rfl ⟨?_, ?_⟩)
    · rw [HR.out, HC.out]
    · (repeat (first | (with_reducible exact Ext.refl _) | (with_reducible assumption) | (with_reducible apply Ext.alloc) | (with_reducible apply Ext.drew) | (with_reducible apply Ext.drewN) | ((with_reducible refine Ext.setCell ?_ ?_ _); rotate_left; (focus (first | (simp; done) | (simp; omega) | omega))) | (with_reducible refine Ext.trans ?_ (by assumption))))
  cases h3 : burstB x
  · have HC := Lib.hid (show clsB x = false by rw [HCR.out, h1, h2, h3]; rfl)
    have HR := Lib.hid (show headR x = ⟨#[]⟩ by rw [headR, HC.out]; rfl)
    go_enter Tryd.func8, Tryd.ntmps8
    go_wp2_with (first | (go_at_call 17; refine (impl_isId_any _ _ ).mono ?_; rintro e w' ⟨rfl, rfl⟩) | (go_at_call 18; refine (impl_rateRight_any x _).mono ?_; rintro e w1 ⟨rfl, F1⟩; obtain ⟨x0, x1, x2, x3, x4, x5, x6, x7, x8⟩ := bcC (BX.out.ext F1)) | (go_at_call 19; refine (impl_burstRight_any x _).mono ?_; rintro e w2 ⟨rfl, F2⟩))
    (refine bodyPost_ret (v := .tuple #[.string ⟨#[]⟩, .bool false]) (by simp [results, Tryd.results8, go_sem, *]) rfl ⟨?_, ?_⟩)
    · rw [HR.out, HC.out]
    · (repeat (first | (with_reducible exact Ext.refl _) | (with_reducible assumption) | (with_reducible apply Ext.alloc) | (with_reducible apply Ext.drew) | (with_reducible apply Ext.drewN) | ((with_reducible refine Ext.setCell ?_ ?_ _); rotate_left; (focus (first | (simp; done) | (simp; omega) | omega))) | (with_reducible refine Ext.trans ?_ (by assumption))))
  have HC := Lib.hid (show clsB x = true by rw [HCR.out, h1, h2, h3]; rfl)
  have HR := Lib.hid (show headR x = headT x by rw [headR, HC.out]; rfl)
  go_enter Tryd.func8, Tryd.ntmps8
  go_wp2_with (first | (go_at_call 17; refine (impl_isId_any _ _ ).mono ?_; rintro e w' ⟨rfl, rfl⟩) | (go_at_call 18; refine (impl_rateRight_any x _).mono ?_; rintro e w1 ⟨rfl, F1⟩; obtain ⟨x0, x1, x2, x3, x4, x5, x6, x7, x8⟩ := bcC (BX.out.ext F1)) | (go_at_call 19; refine (impl_burstRight_any x _).mono ?_; rintro e w2 ⟨rfl, F2⟩; replace F2 := Ext.trans (by assumption) F2; obtain ⟨y0, y1, y2, y3, y4, y5, y6, y7, y8⟩ := bcC (BX.out.ext F2)) | (go_at_call 20; refine (impl_classHead_any x _ HC.out (HK.out.ext F2)).mono ?_; rintro e w3 ⟨rfl, F3⟩))
  (refine bodyPost_ret (v := .tuple #[.string (headT x), .bool true]) (by simp [results, Tryd.results8, go_sem, *]) rfl ⟨?_, ?_⟩)
  · rw [HR.out, HC.out]
  · (repeat (first | (with_reducible exact Ext.refl _) | (with_reducible assumption) | (with_reducible apply Ext.alloc) | (with_reducible apply Ext.drew) | (with_reducible apply Ext.drewN) | ((with_reducible refine Ext.setCell ?_ ?_ _); rotate_left; (focus (first | (simp; done) | (simp; omega) | omega))) | (with_reducible refine Ext.trans ?_ (by assumption))))
theorem walk {w : World} (hk : PowTab w) (x : Cls) :
    Calls Tryd.prog 3 #[clsV x] w fun e w' => e = .returned (.bool true) ∧ Ext w w' := by
  have E0 := (Ext.refl w).alloc (.cells #[.int .i64 x.id, .int .i64 x.parent, .int .i64 x.rate, .int .i64 x.ceil, .int .i64 x.burst, .int .i64 x.cburst, .int .i64 x.prio, .int .i64 x.limit] 23)
  have HK := Lib.hid (hk.ext E0)
  clear hk
  have BX := Lib.hid (Blk.new w 23 #[.int .i64 x.id, .int .i64 x.parent, .int .i64 x.rate, .int .i64 x.ceil, .int .i64 x.burst, .int .i64 x.cburst, .int .i64 x.prio, .int .i64 x.limit])
  go_enter Tryd.func3, Tryd.ntmps3
  go_wp2_with fail
  refine (laws_toClass_any x _).mono ?_
  rintro e w1 ⟨rfl, F1⟩
  go_wp2_with fail
  refine (spec_ClassHead_any x _).mono ?_
  rintro e w2 ⟨rfl, F2⟩
  have G2 := F1.trans F2
  obtain ⟨x0, x1, x2, x3, x4, x5, x6, x7, x8⟩ := bcC (BX.out.ext G2)
  go_wp2_with fail
  refine (laws_toClass_any x _).mono ?_
  rintro e w3 ⟨rfl, F3⟩
  have G3 := G2.trans F3
  clear x0 x1 x2 x3 x4 x5 x6 x7 x8
  go_wp2_with fail
  refine (impl_ClassHead_any x _ (HK.out.ext G3)).mono ?_
  rintro e w4 ⟨rfl, F4⟩
  cases hc : clsB x
  all_goals
    go_wp2
    go_ret
    exact ⟨rfl, E0.trans (G3.trans F4)⟩

theorem own : ownKnob Tryd.prog.godebug = none := by kernel_rfl
theorem laidOut : laidOutB Tryd.prog = true := by kernel_rfl
set_option maxRecDepth 100000 in
theorem door_met (os : Os) (args : Array Value) : laidMetH Tryd.prog Rows.fnExactClassHeadRow.laid ((World.doorLaid Tryd.prog 400 os).forCall (fun _ _ => 0) ⟨#[], args, []⟩).memory :=
  laidMetH_of_parts3 (fuel := 8) (laidMet_of_run' 8 (by kernel_rfl) (by kernel_rfl)) (by kernel_rfl) (by kernel_rfl)
theorem pow_of_laid {W : World} (h : laidMetH Tryd.prog Rows.fnExactClassHeadRow.laid W) : PowTab W := by
  rw [MakeChecks.laidMetH_plain _ _ _ (by kernel_rfl)] at h
  have h2 := h.tail.tail
  exact Lib.tabIs_of_head (g := 4) (by kernel_rfl) (by kernel_rfl) Tryd.underlying101 Tryd.underlying79 (by kernel_rfl) (by kernel_rfl) h2
set_option maxRecDepth 100000 in
theorem lifted (os : Os) (started : os.Started) (H : Type) (enc : TypeId × Value → H) :
    ReturnsInHanded {} Tryd.checked os 3 .any (fun w args => (Rows.fnExactClassHeadSpec.pre enc Tryd.prog Tryd.f3 Rows.fnExactClassHeadRow.domain false w args ∧ laidMetH Tryd.prog Rows.fnExactClassHeadRow.laid w) ∧ sizedMet enc Tryd.prog Tryd.f3 (OpenSpec.ofChange Rows.fnExactClassHeadSpec) false w args)
      (Rows.fnExactClassHeadSpec.post enc Tryd.prog Tryd.f3 false true false false) := by
  refine returnsInHanded_of_change_and (C := Tryd.checked) (X := fun w _ => laidMetH Tryd.prog Rows.fnExactClassHeadRow.laid w) (fun _ _ _ hh h => h.of_heap hh) own started (by kernel_rfl) Tryd.func3
    (ChangeSpec.witness_shaped (enc := enc) (C := Tryd.checked) (os := os) (X := fun w _ => laidMetH Tryd.prog Rows.fnExactClassHeadRow.laid w) false (World.doorLaid Tryd.prog 400 os) #[.agg #[.int .i64 0, .int .i64 0, .int .i64 0, .int .i64 0, .int .i64 0, .int .i64 0, .int .i64 0, .int .i64 0]] 8 rfl (World.shaped_of_RefB (by kernel_rfl) (by kernel_rfl)) (by kernel_rfl) (by kernel_rfl) (by kernel_rfl) (door_met os _)) ?_
  intro W base args ds gs before hval0 hW hcnd _ hL _
  have hval : ∀ (j : Nat) t v, Tryd.f3.params[j]? = some t → args[j]? = some v → Value.okWide Tryd.prog W .any base t v := hval0
  have hW' := hW
  obtain ⟨p, q, hA0, hV, rfl, hfz, hnd⟩ := hW
  have hA : DataW.TrodAll enc Tryd.prog W 0 (fun _ => true) true Tryd.f3.params.toList args.toList ds p := hA0
  have hAk := hA
  have hK : PowTab W := pow_of_laid hL
  rw [Tryd.params3] at hA hval
  obtain ⟨v0, vs0, d0, ds0, p0, q0, hargs, rfl, rfl, h0, r0⟩ := trodAll_cons hA
  obtain ⟨rfl, rfl, rfl⟩ := trodAll_nil r0
  obtain rfl : args = #[v0] := by cases args; simp_all
  obtain ⟨rfl, rfl⟩ := trodVars_none hV
  simp only [List.append_nil] at hW' hAk
  refine Calls.mono (R := fun e W' => e = .returned (.bool true) ∧ Ext W W') ?_ (fun e W' hh => ?_)
  rotate_left
  · obtain ⟨rfl, hx⟩ := hh
    exact ⟨_, rfl, law_post laidOut hW' rfl hAk (of_decide_eq_true (by kernel_rfl)) rfl Tryd.underlying4 rfl rfl rfl hx⟩
  clear hA0 hval0 hW' hAk hfz hnd hV hL
  obtain ⟨c0_0, c0_1, c0_2, c0_3, c0_4, c0_5, c0_6, c0_7, y0_0, y0_1, y0_2, y0_3, y0_4, y0_5, y0_6, y0_7, m0, rfl, rfl, rfl, g0_0, g0_1, g0_2, g0_3, g0_4, g0_5, g0_6, g0_7⟩ := open_agg8 Tryd.underlying23 (by kernel_rfl) (by kernel_rfl) (hval 0 23 v0 rfl rfl) h0
  obtain ⟨a0_0, e0_0, _, wf0_0⟩ := DataW.trod_int Tryd.underlying3 g0_0
  obtain rfl : c0_0 = .int .i64 a0_0 := by simpa using e0_0
  obtain ⟨a0_1, e0_1, _, wf0_1⟩ := DataW.trod_int Tryd.underlying3 g0_1
  obtain rfl : c0_1 = .int .i64 a0_1 := by simpa using e0_1
  obtain ⟨a0_2, e0_2, _, wf0_2⟩ := DataW.trod_int Tryd.underlying3 g0_2
  obtain rfl : c0_2 = .int .i64 a0_2 := by simpa using e0_2
  obtain ⟨a0_3, e0_3, _, wf0_3⟩ := DataW.trod_int Tryd.underlying3 g0_3
  obtain rfl : c0_3 = .int .i64 a0_3 := by simpa using e0_3
  obtain ⟨a0_4, e0_4, _, wf0_4⟩ := DataW.trod_int Tryd.underlying3 g0_4
  obtain rfl : c0_4 = .int .i64 a0_4 := by simpa using e0_4
  obtain ⟨a0_5, e0_5, _, wf0_5⟩ := DataW.trod_int Tryd.underlying3 g0_5
  obtain rfl : c0_5 = .int .i64 a0_5 := by simpa using e0_5
  obtain ⟨a0_6, e0_6, _, wf0_6⟩ := DataW.trod_int Tryd.underlying3 g0_6
  obtain rfl : c0_6 = .int .i64 a0_6 := by simpa using e0_6
  obtain ⟨a0_7, e0_7, _, wf0_7⟩ := DataW.trod_int Tryd.underlying3 g0_7
  obtain rfl : c0_7 = .int .i64 a0_7 := by simpa using e0_7
  exact walk (w := W) hK ⟨a0_0, a0_1, a0_2, a0_3, a0_4, a0_5, a0_6, a0_7⟩

theorem over : Rows.fnExactClassHeadRow.holds Tryd.pinned (OpenSpec.ofChange Rows.fnExactClassHeadSpec) :=
  OpenClaim.holds_of_wide 3 Tryd.f3 rfl rfl rfl rfl rfl rfl rfl ⟨rfl, rfl, rfl, rfl, rfl⟩ rfl rfl rfl rfl rfl (by kernel_rfl) Tryd.func3 (by kernel_rfl)
    (of_decide_eq_true (by kernel_rfl)) (by unfold Func.isWrapper; first | (rw [if_pos (by decide +kernel)]; kernel_rfl) | (rw [if_neg (by decide +kernel)]; exact ⟨rfl, rfl⟩))
    (fun os started H enc _ => lifted os started H enc)

theorem card : Claim7.holds Tryd.pinned (.plain (OpenSpec.ofChange Rows.fnExactClassHeadSpec)) Rows.fnExactClassHeadCard :=
  Claim7.holds_tied_plain_at .later [] [.data, .data, .data] true Rows.fnExactClassHeadCard.stood.harness true
    over (fun _ h => by cases h) (by kernel_rfl) (fun _ h => by cases h) fnExactClassHead_row_tie rfl ⟨rfl, rfl⟩ (by kernel_rfl) rfl
    (fun f fn hf hfn => by
      obtain rfl : f = 3 := Option.some.inj ((show Tryd.prog.funcNamed Rows.fnExactClassHeadRow.func = some 3 by kernel_rfl).symm.trans hf) |>.symm
      obtain rfl : fn = Tryd.f3 := (Option.some.inj (Tryd.func3.symm.trans hfn)).symm
      exact ⟨by kernel_rfl, fun j t ht => by
        rw [Tryd.params3] at ht
        match j, ht with
        | 0, ht => obtain rfl : 23 = t := (by simpa using ht); exact (show Tryd.prog.wantsStandIn 23 = false by kernel_rfl)
        | j + 1, ht => simp at ht⟩)
    (by kernel_rfl)
end Go.Proofs.YtnamgkiealfffaaDoor.LClassHead
namespace Go.Proofs.YtnamgkiealfffaaDoor
theorem provedFnExactClassHead : Rows.FnExactClassHeadCardSaid := LClassHead.card
#print axioms provedFnExactClassHead
end Go.Proofs.YtnamgkiealfffaaDoor

