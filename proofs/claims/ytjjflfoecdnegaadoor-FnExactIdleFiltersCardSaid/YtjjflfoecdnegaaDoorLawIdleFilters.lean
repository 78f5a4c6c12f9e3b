/- 'FnExactIdleFilters' answers true for every input, and its arguments read as before, the table of key words being as the program's text lays it. -/
import Derived.Test.YtjjflfoecdnegaaDoorLaid
import Derived.Test.YtjjflfoecdnegaaDoorCards
import Derived.Test.YtjjflfoecdnegaaDoorTie
import Derived.SevenTiedAt
import Derived.Test.YtjjflfoecdnegaaDoorWit
import Derived.Deep.RegionWith
namespace Go.Proofs.YtjjflfoecdnegaaDoor.LIdleFilters
open Go.RowKit Go.WideShapes Go.ChangeShapes Go.ChangeAt
set_option maxRecDepth 20000
set_option linter.unusedVariables false
set_option linter.unusedSimpArgs false
set_option maxHeartbeats 4000000
theorem walk {H : Type} {enc : TypeId × Value → H} {w : World} {base : Nat} {d0 : DataW H} {p0 : List MemPlace} (hk : Keys w) (v : Value) (hval : Value.okWide Tryd.prog w .any base 25 v) (h0 : DataW.Trod enc Tryd.prog w 0 (fun _ => true) true 25 v d0 p0)  :
    Calls Tryd.prog 8 #[v] w fun e w' => e = .returned (.bool true) ∧ Ext w w' := by
  obtain ⟨n, cv, fv, d, cs, fs, rfl, hc, hf, hn, hcl, hfl, _, _, _⟩ := open_Config hval h0
  have HK := Lib.hid hk
  clear hk
  have HC := Lib.hid hc
  have HF := Lib.hid hf
  clear hc hf hval h0
  have E0 := (Ext.refl w).alloc (.cells #[.string n, cv, fv, .int .i64 d] 25)
  go_enter Tryd.func8, Tryd.ntmps8
  go_wp2_with fail
  refine (laws_szConfig_any n cv fv d cs fs _ (HC.out.ext E0) (HF.out.ext E0) hn hcl hfl).mono ?_
  rintro e w1 ⟨⟨r, rfl, hr⟩, F1⟩
  have E1 := E0.trans F1
  have B1 := Lib.hid ((Box.new w n cv fv d 25).ext F1)
  by_cases hr0 : r < 0
  · clear hr
    go_wp2
    go_ret
    exact ⟨rfl, E1⟩
  have hsz := hr (by omega)
  clear hr
  have D1 := F1
  have hll : (ifV n cs fs d).length ≤ 2000000 := by exact ifV_len n cs fs d
  generalize hL : (ifV n cs fs d) = L at hll
  have HL := Lib.hid hL
  clear hL
  obtain ⟨q0, q1, q2, q3, _⟩ := (Box.new w n cv fv d 25).ext D1
  go_wp2_with fail
  clear q0 q1 q2 q3
  refine (laws_toConfig_any n cv fv d cs fs _ (HC.out.ext E1) (HF.out.ext E1) (by omega) (by omega)).mono ?_
  rintro e w2 ⟨c2, f2, rfl, OC2, OF2, F2⟩
  have D2 := D1.trans F2
  have E2 := Ext.trans ((Ext.refl w).alloc _) D2
  obtain ⟨AC2, kc2, rfl, _, _⟩ := Own.rd OC2 Cls.len
  obtain ⟨AF2, kf2, rfl, _, _⟩ := Own.rd OF2 Flt.len
  have HC2 := Lib.hid OC2
  have HF2 := Lib.hid OF2
  clear OC2 OF2
  go_wp2_with fail
  refine (spec_IdleFilters_any n _ _ d  cs fs _ (HK.out.ext E2) (Own.rd HC2.out Cls.len) (Own.rd HF2.out Flt.len) hsz).mono ?_
  rintro e w3 ⟨v0, rfl, O3, F3⟩
  have D3 := D2.trans F3
  have E3 := Ext.trans ((Ext.refl w).alloc _) D3
  rw [HL.out] at O3
  have O3h := Lib.hid O3
  clear O3
  obtain ⟨q0, q1, q2, q3, _⟩ := (Box.new w n cv fv d 25).ext D3
  go_wp2_with fail
  clear q0 q1 q2 q3
  refine (laws_toConfig_any n cv fv d cs fs _ (HC.out.ext E3) (HF.out.ext E3) (by omega) (by omega)).mono ?_
  rintro e w4 ⟨c4, f4, rfl, OC4, OF4, F4⟩
  have D4 := D3.trans F4
  have E4 := Ext.trans ((Ext.refl w).alloc _) D4
  obtain ⟨AC4, kc4, rfl, _, _⟩ := Own.rd OC4 Cls.len
  obtain ⟨AF4, kf4, rfl, _, _⟩ := Own.rd OF4 Flt.len
  have HC4 := Lib.hid OC4
  have HF4 := Lib.hid OF4
  clear OC4 OF4
  go_wp2_with fail
  refine (impl_IdleFilters_any n _ _ d  cs fs _ (HK.out.ext (E4.alloc _)) ((Own.rd HC4.out Cls.len).ext ((Ext.refl _).alloc _)) ((Own.rd HF4.out Flt.len).ext ((Ext.refl _).alloc _)) hsz).mono ?_
  rintro e w5 ⟨v1, rfl, O5, F5⟩
  have G5 := Ext.trans ((Ext.refl w4).alloc _) F5
  have D5 := D4.trans G5
  have E5 := Ext.trans ((Ext.refl w).alloc _) D5
  rw [HL.out] at O5
  have O5h := Lib.hid (show Own w5 (w4.heap.size + 1) _ _ _ v1 L from Own.mono O5 (by simp))
  clear O5
  have BX := Lib.hid ((Box.new w4 n (.slice AC4 cs.length kc4) (.slice AF4 fs.length kf4) d 33).ext F5)
  go_wp2_with fail
  refine (laws_eqIntS_any _ _ L _ (Own.rd O5h.out icell_len) (Own.rd (Own.ext O3h.out (F4.trans G5)) icell_len) (by omega)).mono ?_
  rintro e w6 ⟨rfl, F6⟩
  have D6 := D5.trans F6
  have E6 := Ext.trans ((Ext.refl w).alloc _) D6
  have G6 := G5.trans F6
  have E6d := E6.drew
  obtain ⟨q0, q1, q2, q3, _⟩ := (Box.new w n cv fv d 25).ext D6
  obtain ⟨x0, x1, x2, x3, _⟩ := BX.out.ext F6
  go_wp2_with fail
  go_region_with (first | (go_at_call 11; refine (laws_toConfig_any n cv fv d cs fs _ (HC.out.ext E6d) (HF.out.ext E6d) (by omega) (by omega)).mono ?_; rintro e w7 ⟨c7, f7, rfl, OC7, OF7, F7⟩; have HC7 := Lib.hid OC7; have HF7 := Lib.hid OF7; clear OC7 OF7; obtain ⟨s0, s1, s2, s3, _⟩ := (BX.out.ext F6).drew.ext F7) | (go_at_call 14; refine (laws_eqConfig_any n _ _ _ _ d cs fs _ ((Own.rd HC4.out Cls.len).ext (G6.drew.trans F7)) ((Own.rd HF4.out Flt.len).ext (G6.drew.trans F7)) (Own.rd HC7.out Cls.len) (Own.rd HF7.out Flt.len) (by omega) (by omega)).mono ?_; rintro e w8 ⟨rfl, F8⟩))
  all_goals
    clear q0 q1 q2 q3 x0 x1 x2 x3 s0 s1 s2 s3
    have G68 := Ext.trans ((Ext.refl w6).drew.trans F7) F8
    have D8 := D6.trans G68
    have E8 := Ext.trans ((Ext.refl w).alloc _) D8
    have G8 := G6.trans G68
    obtain ⟨x0, x1, x2, x3, _⟩ := BX.out.ext (F6.trans G68)
    go_wp2_with fail
    clear x0 x1 x2 x3
    refine (laws_markConfig_any n _ _ d cs fs w3.heap.size w3.heap.size _ (Own.ext HC4.out G8) (Own.ext HF4.out G8) (by omega) (by omega)).mono ?_
    rintro e w9 ⟨rfl, _, _, K9⟩
    have hlo : ∀ g, (Value.slice AC4 cs.length kc4).ownBlock = some g ∨ (Value.slice AF4 fs.length kf4).ownBlock = some g → w3.heap.size ≤ g ∧ g < w4.heap.size := fun g hg => hg.elim (Own.lt HC4.out g) (Own.lt HF4.out g)
    have D9 := D8.kb K9 (fun g hg => Nat.le_trans (Ext.size D3) (hlo g hg).1)
    have E9 := Ext.trans ((Ext.refl w).alloc _) D9
    have O3k := Lib.hid ((Own.ext O3h.out (F4.trans G8)).kb K9 (fun g hg h => by have := (hlo g h).1; have := (Own.lt O3h.out g hg).2; omega))
    have O5k := Lib.hid ((Own.ext O5h.out (F6.trans G68)).kb K9 (fun g hg h => by have := (hlo g h).2; have := (Own.lt O5h.out g hg).1; omega))
    clear K9 hlo
    go_wp2_with fail
    refine (laws_eqIntS_any _ _ L _ (Own.rd O5k.out icell_len) (Own.rd O3k.out icell_len) (by omega)).mono ?_
    rintro e w10 ⟨rfl, F10⟩
    have D10 := D9.trans F10
    go_wp2_with fail
    refine (laws_markIntS_any _ L 1 _ _ _ (Own.ext O5k.out F10) (by omega) (by omega)).mono ?_
    rintro e w11 ⟨rfl, O11, G11⟩
    have D11 := D10.grown G11 (fun g hg => by have := (Own.lt O5h.out g hg).1; have := Ext.size D4; omega)
    have O11h := Lib.hid O11
    clear O11
    have O3m := Lib.hid ((Own.ext O3k.out F10).kept G11 (fun g hg => .inr (fun h => by have := (Own.lt O3h.out g h).2; have := (Own.lt O5h.out g hg).1; have := Ext.size F4; omega)))
    clear G11
    go_wp2_with fail
    refine (laws_heldIntS_any _ 1 L.length _ (Own.rd O11h.out icell_len) (by omega) (by omega)).mono ?_
    rintro e w12 ⟨rfl, F12⟩
    have D12 := D11.trans F12
    have E12 := Ext.trans ((Ext.refl w).alloc _) D12
    have hne : ((1 : Int) + (L.length : Int) != 1 + (L.length : Int)) = false := by simp
    obtain ⟨q0, q1, q2, q3, _⟩ := (Box.new w n cv fv d 25).ext D12
    go_wp2_with fail
    clear q0 q1 q2 q3
    refine (laws_toConfig_any n cv fv d cs fs _ (HC.out.ext E12) (HF.out.ext E12) (by omega) (by omega)).mono ?_
    rintro e w13 ⟨c13, f13, rfl, OC13, OF13, F13⟩
    have E13 := E12.trans F13
    have HC13 := Lib.hid OC13
    have HF13 := Lib.hid OF13
    clear OC13 OF13
    go_wp2_with fail
    refine (impl_IdleFilters_any n _ _ d  cs fs _ (HK.out.ext E13) (Own.rd HC13.out Cls.len) (Own.rd HF13.out Flt.len) hsz).mono ?_
    rintro e w14 ⟨v2, rfl, O14, F14⟩
    rw [HL.out] at O14
    have O14h := Lib.hid O14
    clear O14
    go_wp2_with fail
    refine (laws_eqIntS_any _ _ L _ (Own.rd O14h.out icell_len) (Own.rd (Own.ext O3m.out ((F12.trans F13).trans F14)) icell_len) (by omega)).mono ?_
    rintro e w15 ⟨rfl, F15⟩
    go_wp2_with fail
    refine (laws_heldIntS_any _ 1 L.length _ (Own.rd (Own.ext O11h.out (((F12.trans F13).trans F14).trans F15)) icell_len) (by omega) (by omega)).mono ?_
    rintro e w16 ⟨rfl, F16⟩
    go_wp2
    go_ret
    exact ⟨rfl, ((E13.trans F14).trans F15).trans F16⟩

theorem own : ownKnob Tryd.prog.godebug = none := by kernel_rfl
theorem laidOut : laidOutB Tryd.prog = true := by kernel_rfl
set_option maxRecDepth 100000 in
theorem lifted (os : Os) (started : os.Started) (H : Type) (enc : TypeId × Value → H) :
    ReturnsInHanded {} Tryd.checked os 8 .any (fun w args => (Rows.fnExactIdleFiltersSpec.pre enc Tryd.prog Tryd.f8 Rows.fnExactIdleFiltersRow.domain false w args ∧ laidMetH Tryd.prog Rows.fnExactIdleFiltersRow.laid w) ∧ sizedMet enc Tryd.prog Tryd.f8 (OpenSpec.ofChange Rows.fnExactIdleFiltersSpec) false w args)
      (Rows.fnExactIdleFiltersSpec.post enc Tryd.prog Tryd.f8 false true false false) := by
  refine returnsInHanded_of_change_and (C := Tryd.checked) (X := fun w _ => laidMetH Tryd.prog Rows.fnExactIdleFiltersRow.laid w) (fun _ _ _ hh h => h.of_heap hh) own started (by kernel_rfl) Tryd.func8
    (ChangeSpec.witness_shaped (enc := enc) (C := Tryd.checked) (os := os) (X := fun w _ => laidMetH Tryd.prog Rows.fnExactIdleFiltersRow.laid w) false (World.doorLaid Tryd.prog 400 os) #[.agg #[.string ⟨#[]⟩, .slice none 0 0, .slice none 0 0, .int .i64 0]] 8 rfl (World.shaped_of_RefB (by kernel_rfl) (by kernel_rfl)) (by kernel_rfl) (by kernel_rfl) (by kernel_rfl) (door_met os _)) ?_
  intro W base args ds gs before hval0 hW hcnd _ hL _
  have hval : ∀ (j : Nat) t v, Tryd.f8.params[j]? = some t → args[j]? = some v → Value.okWide Tryd.prog W .any base t v := hval0
  have hW' := hW
  obtain ⟨p, q, hA0, hV0, hbe, hfz, hnd⟩ := hW
  have hA : DataW.TrodAll enc Tryd.prog W 0 (fun _ => true) true Tryd.f8.params.toList args.toList ds p := hA0
  have hAk := hA
  have hV : DataW.TrodVars enc Tryd.prog W (fun _ => true) Rows.fnExactIdleFiltersSpec.vars gs q := hV0
  have hK : Keys W := keys_of_laid hL
  rw [Tryd.params8] at hA hval
  obtain ⟨v0, vs0, d0, ds0, p0, q0, hargs, rfl, rfl, h0, r0⟩ := trodAll_cons hA
  obtain ⟨rfl, rfl, rfl⟩ := trodAll_nil r0
  obtain rfl : args = #[v0] := by cases args; simp_all
  simp only [List.append_nil] at hW' hAk hbe
  refine Calls.mono (R := fun e W' => e = .returned (.bool true) ∧ Ext W W') ?_ (fun e W' hh => ?_)
  rotate_left
  · obtain ⟨rfl, hx⟩ := hh
    obtain ⟨hgs, hvars⟩ := vars_stay hL hV hx
    subst hgs
    exact ⟨_, rfl, law_postV laidOut hW' hbe hAk (of_decide_eq_true (by kernel_rfl)) rfl Tryd.underlying4 rfl rfl rfl (fun sp => hvars sp) hx⟩
  clear hA0 hval0 hW' hAk hfz hnd hV hV0 hL
  exact walk (w := W) hK v0 (hval 0 25 v0 rfl rfl) h0

theorem over : Rows.fnExactIdleFiltersRow.holds Tryd.pinned (OpenSpec.ofChange Rows.fnExactIdleFiltersSpec) :=
  OpenClaim.holds_of_wide 8 Tryd.f8 rfl rfl rfl rfl rfl rfl rfl ⟨rfl, rfl, rfl, rfl, rfl⟩ rfl rfl rfl rfl rfl (by kernel_rfl) Tryd.func8 (by kernel_rfl)
    (of_decide_eq_true (by kernel_rfl)) (by unfold Func.isWrapper; first | (rw [if_pos (by decide +kernel)]; kernel_rfl) | (rw [if_neg (by decide +kernel)]; exact ⟨rfl, rfl⟩))
    (fun os started H enc _ => lifted os started H enc)

theorem card : Claim7.holds Tryd.pinned (.plain (OpenSpec.ofChange Rows.fnExactIdleFiltersSpec)) Rows.fnExactIdleFiltersCard :=
  Claim7.holds_tied_plain_at .later [] [.data] true Rows.fnExactIdleFiltersCard.stood.harness false
    over (fun _ h => by cases h) (by kernel_rfl) (fun _ h => by cases h) fnExactIdleFilters_row_tie rfl ⟨rfl, rfl⟩ (by kernel_rfl) rfl
    (fun f fn hf hfn => by
      obtain rfl : f = 8 := Option.some.inj ((show Tryd.prog.funcNamed Rows.fnExactIdleFiltersRow.func = some 8 by kernel_rfl).symm.trans hf) |>.symm
      obtain rfl : fn = Tryd.f8 := (Option.some.inj (Tryd.func8.symm.trans hfn)).symm
      exact ⟨by kernel_rfl, fun j t ht => by
        rw [Tryd.params8] at ht
        match j, ht with
        | 0, ht => obtain rfl : 25 = t := (by simpa using ht); exact (show Tryd.prog.wantsStandIn 25 = false by kernel_rfl)
        | j + 1, ht => simp at ht⟩)
    (by kernel_rfl)
end Go.Proofs.YtjjflfoecdnegaaDoor.LIdleFilters
namespace Go.Proofs.YtjjflfoecdnegaaDoor
theorem provedFnExactIdleFilters : Rows.FnExactIdleFiltersCardSaid := LIdleFilters.card
#print axioms provedFnExactIdleFilters
end Go.Proofs.YtjjflfoecdnegaaDoor
