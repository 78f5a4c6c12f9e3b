/- 'FnExactDropAttr' answers true for every input, and its arguments read as before. No condition. -/
import Derived.Test.YtifhjhgccknndaaRows
import Derived.Test.YtifhjhgccknndaaAttD
import Derived.Test.YtifhjhgccknndaaAttrS
import Derived.Test.YtifhjhgccknndaaOpen
namespace Go.Proofs.Ytifhjhgccknndaa.LDropAttr
open Go.RowKit Go.WideShapes Go.ChangeShapes Go.ChangeAt
set_option linter.unusedVariables false
set_option linter.unusedSimpArgs false
set_option maxHeartbeats 2000000
theorem walk {H : Type} {enc : TypeId × Value → H} {w : World} {base : Nat} {d0 : DataW H} {p0 : List MemPlace} (v : Value) (hval : Value.okWide Try.prog w .any base 22 v) (h0 : DataW.Trod enc Try.prog w 0 (fun _ => true) true 22 v d0 p0) (i0 : Int) (wi0 : (Lit.int .i64 i0).wf = true) :
    Calls Try.prog 13 #[v, .int .i64 i0] w fun e w' => e = .returned (.bool true) ∧ Ext w w' := by
  obtain ⟨l, hrd, hlm, hok⟩ : ∃ l : List Att, RdA w v l ∧ l.length ≤ maxLen ∧ ∀ x ∈ l, okAttr x := by
    obtain ⟨a0, len, cap, rfl⟩ := okWide_slice Try.underlying22 hval
    obtain ⟨fuel, hf⟩ := h0
    exact open_AttrS (r := .any) (base := 0) ⟨_, _, _, rfl⟩ hf
  have HR := Lib.hid hrd
  have HO := Lib.hid (fun x (hx : x ∈ l) => (hok x hx).2.2)
  clear hrd hok hval h0
  go_enter Try.func13, Try.ntmps13
  go_wp2_with fail
  refine (laws_szAttrS_any _ l _ HR.out hlm HO.out).mono ?_
  rintro e w1 ⟨⟨r, rfl, hr⟩, E1⟩
  by_cases hr0 : r < 0
  · clear hr
    go_wp2
    go_ret
    exact ⟨rfl, E1⟩
  have hl := hr (by omega)
  clear hr
  have hll : (drV l i0).length ≤ 2000000 := by have := drV_len l i0; omega
  generalize hL : (drV l i0) = L at hll
  have HL := Lib.hid hL
  clear hL
  go_wp2_with fail
  refine (laws_toAttrS_any _ l _ (HR.out.ext E1) hl).mono ?_
  rintro e w2 ⟨u2, rfl, O2, F2⟩
  have E2 := E1.trans F2
  have O2h := Lib.hid O2
  have R2 := Lib.hid (Own.rd O2 Att.len)
  clear O2
  go_wp2_with fail
  refine (spec_DropAttr_any _ l _ _ (Own.src O2h.out Att.len) hl).mono ?_
  rintro e w3 ⟨v0, rfl, O3, F3⟩
  have E3 := E2.trans F3
  rw [HL.out] at O3
  have O3h := Lib.hid O3
  clear O3
  go_wp2_with fail
  refine (laws_toAttrS_any _ l _ (HR.out.ext E3) hl).mono ?_
  rintro e w4 ⟨u4, rfl, O4, F4⟩
  have E4 := E3.trans F4
  have O4h := Lib.hid O4
  have R4 := Lib.hid (Own.rd O4 Att.len)
  clear O4
  go_wp2_with fail
  refine (impl_DropAttr_any _ l _ _ (Own.src O4h.out Att.len) hl).mono ?_
  rintro e w5 ⟨v1, rfl, O5, F5⟩
  have E5 := E4.trans F5
  rw [HL.out] at O5
  have O5h := Lib.hid O5
  clear O5
  go_wp2_with fail
  refine (laws_eqAttrS_any _ _ L _ (Own.rd O5h.out Att.len) (Own.rd (Own.ext O3h.out (F4.trans F5)) Att.len) (by omega)).mono ?_
  rintro e w6 ⟨rfl, F6⟩
  have E6 := E5.trans F6
  go_wp2_with fail
  refine (laws_toAttrS_any _ l _ (HR.out.ext E6) hl).mono ?_
  rintro e w7 ⟨u7, rfl, O7, F7⟩
  have E7 := E6.trans F7
  have O7h := Lib.hid O7
  have R7 := Lib.hid (Own.rd O7 Att.len)
  clear O7
  go_wp2_with fail
  refine (laws_eqAttrS_any _ _ l _ (R4.out.ext ((F5.trans F6).trans F7)) R7.out (by omega)).mono ?_
  rintro e w8 ⟨rfl, F8⟩
  have E8 := E7.trans F8
  go_wp2_with fail
  refine (laws_markAttrS_any _ l 1 _ _ _ (Own.ext O4h.out (((F5.trans F6).trans F7).trans F8)) (by omega) (by omega)).mono ?_
  rintro e w9 ⟨rfl, O9, G9⟩
  clear O9
  have E9 := E8.grown G9 (fun g hg => Nat.le_trans (Ext.size E3) ((Own.lt O4h.out g hg).1))
  have O3k := Lib.hid ((Own.ext O3h.out ((((F4.trans F5).trans F6).trans F7).trans F8)).kept G9 (fun g hg => .inr (fun h => by have := (Own.lt O3h.out g h).2; have := (Own.lt O4h.out g hg).1; omega)))
  have O5k := Lib.hid ((Own.ext O5h.out ((F6.trans F7).trans F8)).kept G9 (fun g hg => .inl (Own.lt O4h.out g hg).2))
  have hs9 : w4.heap.size ≤ w9.heap.size := by have := Ext.size F5; have := Ext.size F6; have := Ext.size F7; have := Ext.size F8; have := G9.size; omega
  clear G9
  go_wp2_with fail
  refine (laws_eqAttrS_any _ _ L _ (Own.rd O5k.out Att.len) (Own.rd O3k.out Att.len) (by omega)).mono ?_
  rintro e w10 ⟨rfl, F10⟩
  have E10 := E9.trans F10
  go_wp2_with fail
  refine (laws_markAttrS_any _ L 1 _ _ _ (Own.ext O5k.out F10) (by omega) (by omega)).mono ?_
  rintro e w11 ⟨rfl, O11, G11⟩
  have E11 := E10.grown G11 (fun g hg => Nat.le_trans (Ext.size E4) ((Own.lt O5h.out g hg).1))
  have O11h := Lib.hid O11
  clear O11
  have O3m := Lib.hid ((Own.ext O3k.out F10).kept G11 (fun g hg => .inr (fun h => by have := (Own.lt O3h.out g h).2; have := (Own.lt O5h.out g hg).1; have := Ext.size F4; omega)))
  clear G11
  go_wp2_with fail
  refine (laws_heldAttrS_any _ 1 L.length _ (Own.rd O11h.out Att.len) (by omega) (by omega)).mono ?_
  rintro e w12 ⟨rfl, F12⟩
  have E12 := E11.trans F12
  have hne : ((1 : Int) + 4 * (L.length : Int) != 1 + 4 * (L.length : Int)) = false := by simp
  go_wp2_with fail
  refine (laws_toAttrS_any _ l _ (HR.out.ext E12) hl).mono ?_
  rintro e w13 ⟨u13, rfl, O13, F13⟩
  have E13 := E12.trans F13
  have O13h := Lib.hid O13
  have R13 := Lib.hid (Own.rd O13 Att.len)
  clear O13
  go_wp2_with fail
  refine (impl_DropAttr_any _ l _ _ (Own.src O13h.out Att.len) hl).mono ?_
  rintro e w14 ⟨v2, rfl, O14, F14⟩
  have E14 := E13.trans F14
  rw [HL.out] at O14
  have O14h := Lib.hid O14
  clear O14
  go_wp2_with fail
  refine (laws_eqAttrS_any _ _ L _ (Own.rd O14h.out Att.len) (Own.rd (Own.ext O3m.out ((F12.trans F13).trans F14)) Att.len) (by omega)).mono ?_
  rintro e w15 ⟨rfl, F15⟩
  have E15 := E14.trans F15
  go_wp2_with fail
  refine (laws_heldAttrS_any _ 1 L.length _ (Own.rd (Own.ext O11h.out (((F12.trans F13).trans F14).trans F15)) Att.len) (by omega) (by omega)).mono ?_
  rintro e w16 ⟨rfl, F16⟩
  have E16 := E15.trans F16
  go_wp2
  go_ret
  exact ⟨rfl, E16⟩

theorem own : ownKnob Try.prog.godebug = none := by kernel_rfl
theorem laidOut : laidOutB Try.prog = true := by kernel_rfl
set_option maxRecDepth 100000 in
theorem lifted (os : Os) (started : os.Started) (H : Type) (enc : TypeId × Value → H) :
    ReturnsInHanded {} Try.checked os 13 .any (Rows.fnExactDropAttrSpec.pre6 enc Try.prog Try.f13 Rows.fnExactDropAttrRow.domain false) (Rows.fnExactDropAttrSpec.post enc Try.prog Try.f13 false true false false) := by
  refine returnsInHanded_of_change (C := Try.checked) own started (by kernel_rfl) Try.func13
    (ChangeSpec.witness6 (enc := enc) (C := Try.checked) false ⟨#[], #[.slice none 0 0, .int .i64 0], []⟩ 8 (by kernel_rfl) (by kernel_rfl) (by kernel_rfl) (by kernel_rfl)) ?_
  intro W base args ds gs before hval0 hW hcnd _
  have hval : ∀ (j : Nat) t v, Try.f13.params[j]? = some t → args[j]? = some v → Value.okWide Try.prog W .any base t v := hval0
  have hW' := hW
  obtain ⟨p, q, hA0, hV, rfl, hfz, hnd⟩ := hW
  have hA : DataW.TrodAll enc Try.prog W 0 (fun _ => true) true Try.f13.params.toList args.toList ds p := hA0
  have hAk := hA
  rw [Try.params13] at hA hval
  obtain ⟨v0, vs0, d0, ds0, p0, q0, hargs, rfl, rfl, h0, r0⟩ := trodAll_cons hA
  obtain ⟨v1, vs1, d1, ds1, p1, q1, rfl, rfl, rfl, h1, r1⟩ := trodAll_cons r0
  obtain ⟨rfl, rfl, rfl⟩ := trodAll_nil r1
  obtain rfl : args = #[v0, v1] := by cases args; simp_all
  obtain ⟨rfl, rfl⟩ := trodVars_none hV
  simp only [List.append_nil] at hW' hAk
  refine Calls.mono (R := fun e W' => e = .returned (.bool true) ∧ Ext W W') ?_ (fun e W' hh => ?_)
  rotate_left
  · obtain ⟨rfl, hx⟩ := hh
    exact ⟨_, rfl, law_post laidOut hW' rfl hAk (of_decide_eq_true (by kernel_rfl)) rfl Try.underlying4 rfl rfl rfl hx⟩
  clear hA0 hval0 hW' hAk hfz hnd
  obtain ⟨a1, rfl, rfl, rfl, wf1⟩ := open_int Try.underlying3 (hval 1 3 v1 rfl rfl) h1
  exact walk (w := W) v0 (hval 0 22 v0 rfl rfl) h0 a1 wf1

theorem over : Rows.fnExactDropAttrRow.holds Try.pinned (OpenSpec.ofChange Rows.fnExactDropAttrSpec) :=
  OpenClaim.holds_of_wide 13 Try.f13 rfl rfl rfl rfl rfl rfl rfl ⟨rfl, rfl, rfl, rfl, rfl⟩ rfl rfl rfl rfl rfl (by kernel_rfl) Try.func13 (by kernel_rfl)
    (of_decide_eq_true (by kernel_rfl)) (by unfold Func.isWrapper; first | (rw [if_pos (by decide +kernel)]; kernel_rfl) | (rw [if_neg (by decide +kernel)]; exact ⟨rfl, rfl⟩))
    (fun os started H enc _ => lifted os started H enc)

end Go.Proofs.Ytifhjhgccknndaa.LDropAttr
namespace Go.Proofs.Ytifhjhgccknndaa
theorem provedFnExactDropAttr : Rows.FnExactDropAttrSaid := LDropAttr.over
#print axioms provedFnExactDropAttr
end Go.Proofs.Ytifhjhgccknndaa
