/- 'FnExactRaiseRates' answers true for every input, and its arguments read as before, the table of key words being as the program's text lays it. -/
import Derived.Test.YtidahgoihgodnaaDoorLaid
import Derived.Test.YtidahgoihgodnaaDoorCards
import Derived.Test.YtidahgoihgodnaaDoorTie
import Derived.SevenTiedAt
import Derived.Test.YtidahgoihgodnaaDoorRaiB
import Derived.Deep.RegionWith
namespace Go.Proofs.YtidahgoihgodnaaDoor.LRaiseRates
open Go.RowKit Go.WideShapes Go.ChangeShapes Go.ChangeAt
set_option maxRecDepth 20000
set_option linter.unusedVariables false
set_option linter.unusedSimpArgs false
set_option maxHeartbeats 4000000
theorem walk {H : Type} {enc : TypeId × Value → H} {w : World} {base : Nat} {d0 : DataW H} {p0 : List MemPlace} (hk : Keys w) (v : Value) (hval : Value.okWide Tryd.prog w .any base 25 v) (h0 : DataW.Trod enc Tryd.prog w 0 (fun _ => true) true 25 v d0 p0)  :
    Calls Tryd.prog 5 #[v] w fun e w' => e = .returned (.bool true) ∧ Ext w w' := by
  obtain ⟨n, cv, fv, d, cs, fs, rfl, hc, hf, hn, hcl, hfl, _, _, _⟩ := open_Config hval h0
  have HK := Lib.hid hk
  clear hk
  have HC := Lib.hid hc
  have HF := Lib.hid hf
  clear hc hf hval h0
  have E0 := (Ext.refl w).alloc (.cells #[.string n, cv, fv, .int .i64 d] 25)
  go_enter Tryd.func5, Tryd.ntmps5
  go_wp2_with fail
  refine (laws_szConfig_any n cv fv d cs fs _ (HC.out.ext E0) (HF.out.ext E0) hn hcl hfl).mono ?_
  rintro e w1 ⟨⟨r, rfl, hr⟩, F1⟩
  have E1 := E0.trans F1
  have B1 := Lib.hid ((Box.new w n cv fv d 25).ext F1)
  by_cases hr0 : r < 0
  · clear hr
    go_wp2
    go_ret
    exact ⟨rfl, E1⟩
  have hsz := hr (by omega)
  clear hr
  have HS := Lib.hid (show ∀ (cv fv : Value) (w : World), Keys w → SrcC w cv cs → SrcF w fv fs → Calls Tryd.prog 15 #[cfgV n cv fv d] w (RetC (rrR n cs fs d ) w) from fun cv fv w hk hc hf => spec_RaiseRates_any n cv fv d  cs fs w hk hc hf hsz)
  have HI := Lib.hid (show ∀ (cv fv : Value) (w : World), Keys w → SrcC w cv cs → SrcF w fv fs → Calls Tryd.prog 16 #[cfgV n cv fv d] w (RetC (rrR n cs fs d ) w) from fun cv fv w hk hc hf => impl_RaiseRates_any n cv fv d  cs fs w hk hc hf hsz)
  obtain ⟨hl1, hl2⟩ := rrR_len n cs fs d  hsz
  generalize rrR n cs fs d  = R at HS HI hl1 hl2
  have hok : (R.ok != R.ok) = false := by simp
  have hne : ((1 : Int) + 8 * (R.cls.length : Int) + 5 * (R.flt.length : Int) != 1 + 8 * (R.cls.length : Int) + 5 * (R.flt.length : Int)) = false := by simp
  have D1 := F1
  obtain ⟨q0, q1, q2, q3, _⟩ := (Box.new w n cv fv d 25).ext D1
  go_wp2_with fail
  clear q0 q1 q2 q3
  refine (laws_toConfig_any n cv fv d cs fs _ (HC.out.ext E1) (HF.out.ext E1) (by omega) (by omega)).mono ?_
  rintro e w2 ⟨c2, f2, rfl, OC2, OF2, F2⟩
  obtain ⟨A2, k2, rfl, _, _⟩ := Own.rd OC2 Cls.len
  obtain ⟨B2, j2, rfl, _, _⟩ := Own.rd OF2 Flt.len
  have HC2 := Lib.hid OC2
  have HF2 := Lib.hid OF2
  clear OC2 OF2
  have D2 := D1.trans F2
  have E2 := Ext.trans ((Ext.refl w).alloc _) D2
  go_wp2_with fail
  refine (HS.out _ _ _ (HK.out.ext E2) (Own.src HC2.out Cls.len) (Own.src HF2.out Flt.len)).mono ?_
  rintro e w3 ⟨c3, f3, rfl, OC3, OF3, F3⟩
  obtain ⟨A3, k3, rfl, _, _⟩ := Own.rd OC3 Cls.len
  obtain ⟨B3, j3, rfl, _, _⟩ := Own.rd OF3 Flt.len
  have HC3 := Lib.hid OC3
  have HF3 := Lib.hid OF3
  clear OC3 OF3
  have X3 := Lib.hid (Box.new w3 R.name (.slice A3 R.cls.length k3) (.slice B3 R.flt.length j3) R.dfl 30)
  have D3 := (D2.trans F3).alloc (.cells #[.string R.name, .slice A3 R.cls.length k3, .slice B3 R.flt.length j3, .int .i64 R.dfl] 30)
  have E3 := Ext.trans ((Ext.refl w).alloc _) D3
  obtain ⟨q0, q1, q2, q3, _⟩ := (Box.new w n cv fv d 25).ext (D2.trans F3)
  go_wp2_with fail
  clear q0 q1 q2 q3
  refine (laws_toConfig_any n cv fv d cs fs _ (HC.out.ext E3) (HF.out.ext E3) (by omega) (by omega)).mono ?_
  rintro e w4 ⟨c4, f4, rfl, OC4, OF4, F4⟩
  obtain ⟨A4, k4, rfl, _, _⟩ := Own.rd OC4 Cls.len
  obtain ⟨B4, j4, rfl, _, _⟩ := Own.rd OF4 Flt.len
  have HC4 := Lib.hid OC4
  have HF4 := Lib.hid OF4
  clear OC4 OF4
  have D4 := D3.trans F4
  have E4 := Ext.trans ((Ext.refl w).alloc _) D4
  have X4 := Lib.hid (Box.new w4 n (.slice A4 cs.length k4) (.slice B4 fs.length j4) d 30)
  go_wp2_with fail
  refine (HI.out _ _ _ (HK.out.ext (E4.alloc _)) ((Own.src HC4.out Cls.len).ext ((Ext.refl _).alloc _)) ((Own.src HF4.out Flt.len).ext ((Ext.refl _).alloc _))).mono ?_
  rintro e w5 ⟨c5, f5, rfl, OC5, OF5, F5⟩
  obtain ⟨A5, k5, rfl, _, _⟩ := Own.rd OC5 Cls.len
  obtain ⟨B5, j5, rfl, _, _⟩ := Own.rd OF5 Flt.len
  have HC5 := Lib.hid OC5
  have HF5 := Lib.hid OF5
  clear OC5 OF5
  have X5 := Lib.hid (Box.new w5 R.name (.slice A5 R.cls.length k5) (.slice B5 R.flt.length j5) R.dfl 30)
  have G5 := Ext.trans ((Ext.refl w4).alloc _) F5
  have D5 := D4.trans G5
  have E5 := Ext.trans ((Ext.refl w).alloc _) D5
  obtain ⟨q0, q1, q2, q3, _⟩ := X3.out.ext (F4.trans G5)
  go_wp2_with fail
  clear q0 q1 q2 q3
  refine (laws_eqConfig_any R.name _ _ _ _ R.dfl R.cls R.flt _ ((Own.rd HC5.out Cls.len).ext ((Ext.refl _).alloc _)) ((Own.rd HF5.out Flt.len).ext ((Ext.refl _).alloc _)) ((Own.rd HC3.out Cls.len).ext (((Ext.refl w3).alloc _).trans ((F4.trans G5).alloc _))) ((Own.rd HF3.out Flt.len).ext (((Ext.refl w3).alloc _).trans ((F4.trans G5).alloc _))) (by omega) (by omega)).mono ?_
  rintro e w6 ⟨rfl, F6⟩
  have G6 := (G5.alloc (.cells #[.string R.name, .slice A5 R.cls.length k5, .slice B5 R.flt.length j5, .int .i64 R.dfl] 30)).trans F6
  have D6 := D4.trans G6
  have E6 := Ext.trans ((Ext.refl w).alloc _) D6
  have E6d := E6.drew
  obtain ⟨q0, q1, q2, q3, _⟩ := (Box.new w n cv fv d 25).ext D6
  have X46 := Lib.hid (X4.out.ext ((F5.alloc _).trans F6))
  obtain ⟨x0, x1, x2, x3, _⟩ := X46.out
  go_wp2_with fail
  go_region_with (first | (go_at_call 8; refine (laws_toConfig_any n cv fv d cs fs _ (HC.out.ext E6d) (HF.out.ext E6d) (by omega) (by omega)).mono ?_; rintro e w7 ⟨c7, f7, rfl, OC7, OF7, F7⟩; have HC7 := Lib.hid OC7; have HF7 := Lib.hid OF7; clear OC7 OF7; obtain ⟨s0, s1, s2, s3, _⟩ := X46.out.drew.ext F7) | (go_at_call 10; refine (laws_eqConfig_any n _ _ _ _ d cs fs _ ((Own.rd HC4.out Cls.len).ext (G6.drew.trans F7)) ((Own.rd HF4.out Flt.len).ext (G6.drew.trans F7)) (Own.rd HC7.out Cls.len) (Own.rd HF7.out Flt.len) (by omega) (by omega)).mono ?_; rintro e w8 ⟨rfl, F8⟩))
  all_goals
    clear q0 q1 q2 q3 x0 x1 x2 x3 s0 s1 s2 s3
    have G68 := Ext.trans ((Ext.refl w6).drew.trans F7) F8
    have D8 := D6.trans G68
    have E8 := Ext.trans ((Ext.refl w).alloc _) D8
    have G8 := G6.trans G68
    obtain ⟨x0, x1, x2, x3, _⟩ := X46.out.ext G68
    go_wp2_with fail
    clear x0 x1 x2 x3
    refine (laws_markConfig_any n _ _ d cs fs w3.heap.size w3.heap.size _ (Own.mono (Own.ext HC4.out G8) (by simp)) (Own.mono (Own.ext HF4.out G8) (by simp)) (by omega) (by omega)).mono ?_
    rintro e w9 ⟨rfl, _, _, K9⟩
    have hlo : ∀ g, (Value.slice A4 cs.length k4).ownBlock = some g ∨ (Value.slice B4 fs.length j4).ownBlock = some g → w3.heap.size + 1 ≤ g ∧ g < w4.heap.size := fun g hg => hg.elim (fun h => by have := Own.lt HC4.out g h; simpa using this) (fun h => by have := Own.lt HF4.out g h; simpa using this)
    have hs3 := Ext.size D3
    have hs5 := Ext.size F5
    have D9 := D8.kb K9 (fun g hg => by have := (hlo g hg).1; simp at hs3 ⊢; omega)
    have E9 := Ext.trans ((Ext.refl w).alloc _) D9
    have C3k := Lib.hid ((Own.ext HC3.out (((Ext.refl w3).alloc _).trans ((F4.trans G6).trans G68))).kb K9 (fun g hg h => by have := (hlo g h).1; have := (Own.lt HC3.out g hg).2; omega))
    have F3k := Lib.hid ((Own.ext HF3.out (((Ext.refl w3).alloc _).trans ((F4.trans G6).trans G68))).kb K9 (fun g hg h => by have := (hlo g h).1; have := (Own.lt HF3.out g hg).2; omega))
    have G58 := ((Ext.refl w5).alloc _).trans (F6.trans G68)
    have C5k := Lib.hid ((Own.ext HC5.out G58).kb K9 (fun g hg h => by have := (hlo g h).2; have := (Own.lt HC5.out g hg).1; simp at this; omega))
    have F5k := Lib.hid ((Own.ext HF5.out G58).kb K9 (fun g hg h => by have := (hlo g h).2; have := (Own.lt HF5.out g hg).1; simp at this; omega))
    have X3k := Lib.hid ((X3.out.ext ((F4.trans G6).trans G68)).kb K9 (fun h => by have := (hlo _ h).1; omega))
    have X5k := Lib.hid ((X5.out.ext (F6.trans G68)).kb K9 (fun h => by have := (hlo _ h).2; simp at hs5; omega))
    clear K9 hlo
    obtain ⟨x0, x1, x2, x3, _⟩ := X5k.out
    obtain ⟨q0, q1, q2, q3, _⟩ := X3k.out
    go_wp2_with fail
    clear x0 x1 x2 x3 q0 q1 q2 q3
    refine (laws_eqConfig_any R.name _ _ _ _ R.dfl R.cls R.flt _ (Own.rd C5k.out Cls.len) (Own.rd F5k.out Flt.len) (Own.rd C3k.out Cls.len) (Own.rd F3k.out Flt.len) (by omega) (by omega)).mono ?_
    rintro e w10 ⟨rfl, F10⟩
    have D10 := D9.trans F10
    obtain ⟨x0, x1, x2, x3, _⟩ := X5k.out.ext F10
    go_wp2_with fail
    clear x0 x1 x2 x3
    refine (laws_markConfig_any R.name _ _ R.dfl R.cls R.flt w4.heap.size w4.heap.size _ (Own.mono (Own.ext C5k.out F10) (by simp)) (Own.mono (Own.ext F5k.out F10) (by simp)) (by omega) (by omega)).mono ?_
    rintro e w11 ⟨rfl, OM, OG, K11⟩
    have HM := Lib.hid OM
    have HG := Lib.hid OG
    clear OM OG
    have hl5 : ∀ g, (Value.slice A5 R.cls.length k5).ownBlock = some g ∨ (Value.slice B5 R.flt.length j5).ownBlock = some g → w4.heap.size + 1 ≤ g ∧ g < w5.heap.size := fun g hg => hg.elim (fun h => by have := Own.lt HC5.out g h; simpa using this) (fun h => by have := Own.lt HF5.out g h; simpa using this)
    have hs4 := Ext.size D4
    have hs34 := Ext.size F4
    have D11 := D10.kb K11 (fun g hg => by have := (hl5 g hg).1; simp at hs4 ⊢; omega)
    have C3m := Lib.hid ((Own.ext C3k.out F10).kb K11 (fun g hg h => by have := (hl5 g h).1; have := (Own.lt HC3.out g hg).2; simp at hs34; omega))
    have F3m := Lib.hid ((Own.ext F3k.out F10).kb K11 (fun g hg h => by have := (hl5 g h).1; have := (Own.lt HF3.out g hg).2; simp at hs34; omega))
    have X3m := Lib.hid ((X3k.out.ext F10).kb K11 (fun h => by have := (hl5 _ h).1; simp at hs34; omega))
    have X5m := Lib.hid ((X5k.out.ext F10).kb K11 (fun h => by have := (hl5 _ h).2; omega))
    clear K11 hl5
    obtain ⟨x0, x1, x2, x3, _⟩ := X5m.out
    go_wp2_with fail
    clear x0 x1 x2 x3
    refine (laws_heldConfig_any R.name _ _ R.dfl R.cls.length R.flt.length _ (Own.rd HM.out Cls.len) (Own.rd HG.out Flt.len) (by omega) (by omega)).mono ?_
    rintro e w12 ⟨rfl, F12⟩
    have D12 := D11.trans F12
    have E12 := Ext.trans ((Ext.refl w).alloc _) D12
    obtain ⟨q0, q1, q2, q3, _⟩ := (Box.new w n cv fv d 25).ext D12
    go_wp2_with fail
    clear q0 q1 q2 q3
    refine (laws_toConfig_any n cv fv d cs fs _ (HC.out.ext E12) (HF.out.ext E12) (by omega) (by omega)).mono ?_
    rintro e w13 ⟨c13, f13, rfl, OC13, OF13, F13⟩
    obtain ⟨A13, k13, rfl, _, _⟩ := Own.rd OC13 Cls.len
    obtain ⟨B13, j13, rfl, _, _⟩ := Own.rd OF13 Flt.len
    have HC13 := Lib.hid OC13
    have HF13 := Lib.hid OF13
    clear OC13 OF13
    have E13 := E12.trans F13
    go_wp2_with fail
    refine (HI.out _ _ _ (HK.out.ext E13) (Own.src HC13.out Cls.len) (Own.src HF13.out Flt.len)).mono ?_
    rintro e w14 ⟨c14, f14, rfl, OC14, OF14, F14⟩
    obtain ⟨A14, k14, rfl, _, _⟩ := Own.rd OC14 Cls.len
    obtain ⟨B14, j14, rfl, _, _⟩ := Own.rd OF14 Flt.len
    have HC14 := Lib.hid OC14
    have HF14 := Lib.hid OF14
    clear OC14 OF14
    have G14 := F12.trans (F13.trans F14)
    obtain ⟨q0, q1, q2, q3, _⟩ := X3m.out.ext G14
    go_wp2_with fail
    clear q0 q1 q2 q3
    refine (laws_eqConfig_any R.name _ _ _ _ R.dfl R.cls R.flt _ ((Own.rd HC14.out Cls.len).ext ((Ext.refl _).alloc _)) ((Own.rd HF14.out Flt.len).ext ((Ext.refl _).alloc _)) ((Own.rd C3m.out Cls.len).ext (G14.alloc _)) ((Own.rd F3m.out Flt.len).ext (G14.alloc _)) (by omega) (by omega)).mono ?_
    rintro e w15 ⟨rfl, F15⟩
    have G15 := (G14.alloc _).trans F15
    obtain ⟨x0, x1, x2, x3, _⟩ := X5m.out.ext G15
    go_wp2_with fail
    clear x0 x1 x2 x3
    refine (laws_heldConfig_any R.name _ _ R.dfl R.cls.length R.flt.length _ ((Own.rd HM.out Cls.len).ext G15) ((Own.rd HG.out Flt.len).ext G15) (by omega) (by omega)).mono ?_
    rintro e w16 ⟨rfl, F16⟩
    go_wp2
    go_ret
    exact ⟨rfl, Ext.trans ((Ext.refl w).alloc _) ((D11.trans G15).trans F16)⟩

theorem own : ownKnob Tryd.prog.godebug = none := by kernel_rfl
theorem laidOut : laidOutB Tryd.prog = true := by kernel_rfl
set_option maxRecDepth 100000 in
theorem lifted (os : Os) (started : os.Started) (H : Type) (enc : TypeId × Value → H) :
    ReturnsInHanded {} Tryd.checked os 5 .any (fun w args => (Rows.fnExactRaiseRatesSpec.pre enc Tryd.prog Tryd.f5 Rows.fnExactRaiseRatesRow.domain false w args ∧ laidMetH Tryd.prog Rows.fnExactRaiseRatesRow.laid w) ∧ sizedMet enc Tryd.prog Tryd.f5 (OpenSpec.ofChange Rows.fnExactRaiseRatesSpec) false w args)
      (Rows.fnExactRaiseRatesSpec.post enc Tryd.prog Tryd.f5 false true false false) := by
  refine returnsInHanded_of_change_and (C := Tryd.checked) (X := fun w _ => laidMetH Tryd.prog Rows.fnExactRaiseRatesRow.laid w) (fun _ _ _ hh h => h.of_heap hh) own started (by kernel_rfl) Tryd.func5
    (ChangeSpec.witness_shaped (enc := enc) (C := Tryd.checked) (os := os) (X := fun w _ => laidMetH Tryd.prog Rows.fnExactRaiseRatesRow.laid w) false (World.doorLaid Tryd.prog 400 os) #[.agg #[.string ⟨#[]⟩, .slice none 0 0, .slice none 0 0, .int .i64 0]] 8 rfl (World.shaped_of_RefB (by kernel_rfl) (by kernel_rfl)) (by kernel_rfl) (by kernel_rfl) (by kernel_rfl) (door_met os _)) ?_
  intro W base args ds gs before hval0 hW hcnd _ hL _
  have hval : ∀ (j : Nat) t v, Tryd.f5.params[j]? = some t → args[j]? = some v → Value.okWide Tryd.prog W .any base t v := hval0
  have hW' := hW
  obtain ⟨p, q, hA0, hV0, hbe, hfz, hnd⟩ := hW
  have hA : DataW.TrodAll enc Tryd.prog W 0 (fun _ => true) true Tryd.f5.params.toList args.toList ds p := hA0
  have hAk := hA
  have hV : DataW.TrodVars enc Tryd.prog W (fun _ => true) Rows.fnExactRaiseRatesSpec.vars gs q := hV0
  have hK : Keys W := keys_of_laid hL
  rw [Tryd.params5] at hA hval
  obtain ⟨v0, vs0, d0, ds0, p0, q0, hargs, rfl, rfl, h0, r0⟩ := trodAll_cons hA
  obtain ⟨rfl, rfl, rfl⟩ := trodAll_nil r0
  obtain rfl : args = #[v0] := by cases args; simp_all
  simp only [List.append_nil] at hW' hAk hbe
  refine Calls.mono (R := fun e W' => e = .returned (.bool true) ∧ Ext W W') ?_ (fun e W' hh => ?_)
  rotate_left
  · obtain ⟨rfl, hx⟩ := hh
    obtain ⟨hgs, hvars⟩ := vars_stay hL hV hx
    subst hgs
    exact ⟨_, rfl, law_postV laidOut hW' hbe hAk (of_decide_eq_true (by kernel_rfl)) rfl Tryd.underlying4 rfl rfl rfl (fun sp => hvars sp) hx⟩
  clear hA0 hval0 hW' hAk hfz hnd hV hV0 hL
  exact walk (w := W) hK v0 (hval 0 25 v0 rfl rfl) h0

theorem over : Rows.fnExactRaiseRatesRow.holds Tryd.pinned (OpenSpec.ofChange Rows.fnExactRaiseRatesSpec) :=
  OpenClaim.holds_of_wide 5 Tryd.f5 rfl rfl rfl rfl rfl rfl rfl ⟨rfl, rfl, rfl, rfl, rfl⟩ rfl rfl rfl rfl rfl (by kernel_rfl) Tryd.func5 (by kernel_rfl)
    (of_decide_eq_true (by kernel_rfl)) (by unfold Func.isWrapper; first | (rw [if_pos (by decide +kernel)]; kernel_rfl) | (rw [if_neg (by decide +kernel)]; exact ⟨rfl, rfl⟩))
    (fun os started H enc _ => lifted os started H enc)

theorem card : Claim7.holds Tryd.pinned (.plain (OpenSpec.ofChange Rows.fnExactRaiseRatesSpec)) Rows.fnExactRaiseRatesCard :=
  Claim7.holds_tied_plain_at .later [] [.data] true Rows.fnExactRaiseRatesCard.stood.harness false
    over (fun _ h => by cases h) (by kernel_rfl) (fun _ h => by cases h) fnExactRaiseRates_row_tie rfl ⟨rfl, rfl⟩ (by kernel_rfl) rfl
    (fun f fn hf hfn => by
      obtain rfl : f = 5 := Option.some.inj ((show Tryd.prog.funcNamed Rows.fnExactRaiseRatesRow.func = some 5 by kernel_rfl).symm.trans hf) |>.symm
      obtain rfl : fn = Tryd.f5 := (Option.some.inj (Tryd.func5.symm.trans hfn)).symm
      exact ⟨by kernel_rfl, fun j t ht => by
        rw [Tryd.params5] at ht
        match j, ht with
        | 0, ht => obtain rfl : 25 = t := (by simpa using ht); exact (show Tryd.prog.wantsStandIn 25 = false by kernel_rfl)
        | j + 1, ht => simp at ht⟩)
    (by kernel_rfl)
end Go.Proofs.YtidahgoihgodnaaDoor.LRaiseRates
namespace Go.Proofs.YtidahgoihgodnaaDoor
theorem provedFnExactRaiseRates : Rows.FnExactRaiseRatesCardSaid := LRaiseRates.card
#print axioms provedFnExactRaiseRates
end Go.Proofs.YtidahgoihgodnaaDoor
