/- 'FnExactWitnessFor' answers true for every input, and its arguments read as before, the table of key words being as the program's text lays it. -/
import Derived.Test.YtjjflfoecdnegaaDoorLaid
import Derived.Test.YtjjflfoecdnegaaDoorCards
import Derived.Test.YtjjflfoecdnegaaDoorTie
import Derived.SevenTiedAt
import Derived.Test.YtjjflfoecdnegaaDoorWit
import Derived.Deep.RegionWith
namespace Go.Proofs.YtjjflfoecdnegaaDoor.LWitnessFor
open Go.RowKit Go.WideShapes Go.ChangeShapes Go.ChangeAt
set_option maxRecDepth 20000
set_option linter.unusedVariables false
set_option linter.unusedSimpArgs false
set_option maxHeartbeats 4000000
theorem walk {H : Type} {enc : TypeId × Value → H} {w : World} {base : Nat} {d0 : DataW H} {p0 : List MemPlace} (hk : Keys w) (v : Value) (hval : Value.okWide Tryd.prog w .any base 25 v) (h0 : DataW.Trod enc Tryd.prog w 0 (fun _ => true) true 25 v d0 p0) (i0 : Int) (wi0 : (Lit.int .i64 i0).wf = true) :
    Calls Tryd.prog 7 #[v, .int .i64 i0] w fun e w' => e = .returned (.bool true) ∧ Ext w w' := by
  obtain ⟨n, cv, fv, d, cs, fs, rfl, hc, hf, hn, hcl, hfl, _, _, _⟩ := open_Config hval h0
  have HK := Lib.hid hk
  clear hk
  have HC := Lib.hid hc
  have HF := Lib.hid hf
  clear hc hf hval h0
  have E0 := (Ext.refl w).alloc (.cells #[.string n, cv, fv, .int .i64 d] 25)
  go_enter Tryd.func7, Tryd.ntmps7
  go_wp2_with fail
  refine (laws_szConfig_any n cv fv d cs fs _ (HC.out.ext E0) (HF.out.ext E0) hn hcl hfl).mono ?_
  rintro e w1 ⟨⟨r, rfl, hr⟩, F1⟩
  have E1 := E0.trans F1
  have B1 := Lib.hid ((Box.new w n cv fv d 25).ext F1)
  by_cases hr0 : r < 0
  · clear hr
    go_wp2
    go_ret
    exact ⟨rfl, E1⟩
  have hsz := hr (by omega)
  clear hr
  obtain ⟨q0, q1, q2, q3, _⟩ := B1.out
  go_wp2_with fail
  clear q0 q1 q2 q3
  refine (laws_toConfig_any n cv fv d cs fs _ (HC.out.ext E1) (HF.out.ext E1) (by omega) (by omega)).mono ?_
  rintro e w2 ⟨c2, f2, rfl, OC2, OF2, F2⟩
  have E2 := E1.trans F2
  obtain ⟨AC2, kc2, rfl, _, _⟩ := Own.rd OC2 Cls.len
  obtain ⟨AF2, kf2, rfl, _, _⟩ := Own.rd OF2 Flt.len
  have HC2 := Lib.hid OC2
  have HF2 := Lib.hid OF2
  clear OC2 OF2
  go_wp2_with fail
  have HSP := Lib.hid (fun cv fv w hk hc hf => spec_WitnessFor_any n cv fv d i0 cs fs w hk hc hf hsz)
  have HIM := Lib.hid (fun cv fv w hk hc hf => impl_WitnessFor_any n cv fv d i0 cs fs w hk hc hf hsz)
  simp only [pktO] at HSP HIM
  generalize wfOk n cs fs d i0 = ok at HSP HIM
  generalize selI ok 1 = b0 at HSP HIM
  generalize selI ok (leastV fs i0.toNat 0) = b1 at HSP HIM
  generalize selI ok (leastV fs i0.toNat 1) = b2 at HSP HIM
  generalize selI ok (leastV fs i0.toNat 2) = b3 at HSP HIM
  generalize selI ok (leastV fs i0.toNat 3) = b4 at HSP HIM
  have hok : (ok != ok) = false := by simp
  refine (HSP.out _ _ _ (HK.out.ext E2) (Own.rd HC2.out Cls.len) (Own.rd HF2.out Flt.len)).mono ?_
  rintro e w3 ⟨rfl, F3⟩
  have E3 := (E2.trans F3).alloc (.cells #[.int .i64 b0, .int .i64 b1, .int .i64 b2, .int .i64 b3, .int .i64 b4, .int .i64 b0] 43)
  have X3 := (F2.trans F3).alloc (.cells #[.int .i64 b0, .int .i64 b1, .int .i64 b2, .int .i64 b3, .int .i64 b4, .int .i64 b0] 43)
  have B3 := Lib.hid (B1.out.ext X3)
  have P3 := Lib.hid (Blk.new w3 43 #[.int .i64 b0, .int .i64 b1, .int .i64 b2, .int .i64 b3, .int .i64 b4, .int .i64 b0])
  obtain ⟨q0, q1, q2, q3, _⟩ := (B1.out.ext (F2.trans F3))
  go_wp2_with fail
  clear q0 q1 q2 q3
  refine (laws_toConfig_any n cv fv d cs fs _ (HC.out.ext E3) (HF.out.ext E3) (by omega) (by omega)).mono ?_
  rintro e w4 ⟨c4, f4, rfl, OC4, OF4, F4⟩
  have E4 := E3.trans F4
  obtain ⟨AC4, kc4, rfl, _, _⟩ := Own.rd OC4 Cls.len
  obtain ⟨AF4, kf4, rfl, _, _⟩ := Own.rd OF4 Flt.len
  have HC4 := Lib.hid OC4
  have HF4 := Lib.hid OF4
  clear OC4 OF4
  go_wp2_with fail
  refine (HIM.out _ _ _ (HK.out.ext (E4.alloc _)) ((Own.rd HC4.out Cls.len).ext ((Ext.refl _).alloc _)) ((Own.rd HF4.out Flt.len).ext ((Ext.refl _).alloc _))).mono ?_
  rintro e w5 ⟨rfl, F5⟩
  have G5 := Ext.trans ((Ext.refl w4).alloc _) F5
  have P5 := Lib.hid ((P3.out.ext F4).ext G5)
  obtain ⟨⟨p0, p1, p2, p3, p4, p5⟩, _, hp⟩ := W6.blk P5.out
  go_wp2_with fail
  clear p0 p1 p2 p3 p4 p5 hp
  refine (laws_eqPacketW_any _ _ _ _ _ _ _).mono ?_
  rintro e w6 ⟨rfl, F6⟩
  have G6 := (G5.alloc _).trans F6
  have E6 := E4.trans G6
  have BX := Lib.hid ((Box.new w4 n (.slice AC4 cs.length kc4) (.slice AF4 fs.length kf4) d 33).ext (((show Ext (w4.alloc _) w5 from F5).alloc _).trans F6))
  have B6 := Lib.hid (B3.out.ext (F4.trans G6))
  have E6d := E6.drew
  obtain ⟨q0, q1, q2, q3, _⟩ := B6.out
  obtain ⟨x0, x1, x2, x3, _⟩ := BX.out
  go_wp2_with fail
  go_region_with (first | (go_at_call 11; refine (laws_toConfig_any n cv fv d cs fs _ (HC.out.ext E6d) (HF.out.ext E6d) (by omega) (by omega)).mono ?_; rintro e w7 ⟨c7, f7, rfl, OC7, OF7, F7⟩; have HC7 := Lib.hid OC7; have HF7 := Lib.hid OF7; clear OC7 OF7; obtain ⟨s0, s1, s2, s3, _⟩ := BX.out.drew.ext F7) | (go_at_call 14; refine (laws_eqConfig_any n _ _ _ _ d cs fs _ ((Own.rd HC4.out Cls.len).ext (G6.drew.trans F7)) ((Own.rd HF4.out Flt.len).ext (G6.drew.trans F7)) (Own.rd HC7.out Cls.len) (Own.rd HF7.out Flt.len) (by omega) (by omega)).mono ?_; rintro e w8 ⟨rfl, F8⟩))
  all_goals (go_wp2; go_ret; exact ⟨rfl, (E6d.trans F7).trans F8⟩)

theorem own : ownKnob Tryd.prog.godebug = none := by kernel_rfl
theorem laidOut : laidOutB Tryd.prog = true := by kernel_rfl
set_option maxRecDepth 100000 in
theorem lifted (os : Os) (started : os.Started) (H : Type) (enc : TypeId × Value → H) :
    ReturnsInHanded {} Tryd.checked os 7 .any (fun w args => (Rows.fnExactWitnessForSpec.pre enc Tryd.prog Tryd.f7 Rows.fnExactWitnessForRow.domain false w args ∧ laidMetH Tryd.prog Rows.fnExactWitnessForRow.laid w) ∧ sizedMet enc Tryd.prog Tryd.f7 (OpenSpec.ofChange Rows.fnExactWitnessForSpec) false w args)
      (Rows.fnExactWitnessForSpec.post enc Tryd.prog Tryd.f7 false true false false) := by
  refine returnsInHanded_of_change_and (C := Tryd.checked) (X := fun w _ => laidMetH Tryd.prog Rows.fnExactWitnessForRow.laid w) (fun _ _ _ hh h => h.of_heap hh) own started (by kernel_rfl) Tryd.func7
    (ChangeSpec.witness_shaped (enc := enc) (C := Tryd.checked) (os := os) (X := fun w _ => laidMetH Tryd.prog Rows.fnExactWitnessForRow.laid w) false (World.doorLaid Tryd.prog 400 os) #[.agg #[.string ⟨#[]⟩, .slice none 0 0, .slice none 0 0, .int .i64 0], .int .i64 0] 8 rfl (World.shaped_of_RefB (by kernel_rfl) (by kernel_rfl)) (by kernel_rfl) (by kernel_rfl) (by kernel_rfl) (door_met os _)) ?_
  intro W base args ds gs before hval0 hW hcnd _ hL _
  have hval : ∀ (j : Nat) t v, Tryd.f7.params[j]? = some t → args[j]? = some v → Value.okWide Tryd.prog W .any base t v := hval0
  have hW' := hW
  obtain ⟨p, q, hA0, hV0, hbe, hfz, hnd⟩ := hW
  have hA : DataW.TrodAll enc Tryd.prog W 0 (fun _ => true) true Tryd.f7.params.toList args.toList ds p := hA0
  have hAk := hA
  have hV : DataW.TrodVars enc Tryd.prog W (fun _ => true) Rows.fnExactWitnessForSpec.vars gs q := hV0
  have hK : Keys W := keys_of_laid hL
  rw [Tryd.params7] at hA hval
  obtain ⟨v0, vs0, d0, ds0, p0, q0, hargs, rfl, rfl, h0, r0⟩ := trodAll_cons hA
  obtain ⟨v1, vs1, d1, ds1, p1, q1, rfl, rfl, rfl, h1, r1⟩ := trodAll_cons r0
  obtain ⟨rfl, rfl, rfl⟩ := trodAll_nil r1
  obtain rfl : args = #[v0, v1] := by cases args; simp_all
  simp only [List.append_nil] at hW' hAk hbe
  refine Calls.mono (R := fun e W' => e = .returned (.bool true) ∧ Ext W W') ?_ (fun e W' hh => ?_)
  rotate_left
  · obtain ⟨rfl, hx⟩ := hh
    obtain ⟨hgs, hvars⟩ := vars_stay hL hV hx
    subst hgs
    exact ⟨_, rfl, law_postV laidOut hW' hbe hAk (of_decide_eq_true (by kernel_rfl)) rfl Tryd.underlying4 rfl rfl rfl (fun sp => hvars sp) hx⟩
  clear hA0 hval0 hW' hAk hfz hnd hV hV0 hL
  obtain ⟨a1, rfl, rfl, rfl, wf1⟩ := open_int Tryd.underlying3 (hval 1 3 v1 rfl rfl) h1
  exact walk (w := W) hK v0 (hval 0 25 v0 rfl rfl) h0 a1 wf1

theorem over : Rows.fnExactWitnessForRow.holds Tryd.pinned (OpenSpec.ofChange Rows.fnExactWitnessForSpec) :=
  OpenClaim.holds_of_wide 7 Tryd.f7 rfl rfl rfl rfl rfl rfl rfl ⟨rfl, rfl, rfl, rfl, rfl⟩ rfl rfl rfl rfl rfl (by kernel_rfl) Tryd.func7 (by kernel_rfl)
    (of_decide_eq_true (by kernel_rfl)) (by unfold Func.isWrapper; first | (rw [if_pos (by decide +kernel)]; kernel_rfl) | (rw [if_neg (by decide +kernel)]; exact ⟨rfl, rfl⟩))
    (fun os started H enc _ => lifted os started H enc)

theorem card : Claim7.holds Tryd.pinned (.plain (OpenSpec.ofChange Rows.fnExactWitnessForSpec)) Rows.fnExactWitnessForCard :=
  Claim7.holds_tied_plain_at .later [] [.data] true Rows.fnExactWitnessForCard.stood.harness false
    over (fun _ h => by cases h) (by kernel_rfl) (fun _ h => by cases h) fnExactWitnessFor_row_tie rfl ⟨rfl, rfl⟩ (by kernel_rfl) rfl
    (fun f fn hf hfn => by
      obtain rfl : f = 7 := Option.some.inj ((show Tryd.prog.funcNamed Rows.fnExactWitnessForRow.func = some 7 by kernel_rfl).symm.trans hf) |>.symm
      obtain rfl : fn = Tryd.f7 := (Option.some.inj (Tryd.func7.symm.trans hfn)).symm
      exact ⟨by kernel_rfl, fun j t ht => by
        rw [Tryd.params7] at ht
        match j, ht with
        | 0, ht => obtain rfl : 25 = t := (by simpa using ht); exact (show Tryd.prog.wantsStandIn 25 = false by kernel_rfl)
        | 1, ht => obtain rfl : 3 = t := (by simpa using ht); exact (show Tryd.prog.wantsStandIn 3 = false by kernel_rfl)
        | j + 2, ht => simp at ht⟩)
    (by kernel_rfl)
end Go.Proofs.YtjjflfoecdnegaaDoor.LWitnessFor
namespace Go.Proofs.YtjjflfoecdnegaaDoor
theorem provedFnExactWitnessFor : Rows.FnExactWitnessForCardSaid := LWitnessFor.card
#print axioms provedFnExactWitnessFor
end Go.Proofs.YtjjflfoecdnegaaDoor
