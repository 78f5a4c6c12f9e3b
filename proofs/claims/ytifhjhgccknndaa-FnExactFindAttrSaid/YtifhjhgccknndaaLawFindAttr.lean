/- 'FnExactFindAttr' answers true for every input, and its arguments read as before. No condition. -/
import Derived.Test.YtifhjhgccknndaaRows
import Derived.Test.YtifhjhgccknndaaAttF
import Derived.Test.YtifhjhgccknndaaAttrS
import Derived.Test.YtifhjhgccknndaaOpen
namespace Go.Proofs.Ytifhjhgccknndaa.LFindAttr
open Go.RowKit Go.WideShapes Go.ChangeShapes Go.ChangeAt
set_option linter.unusedVariables false
set_option linter.unusedSimpArgs false
set_option maxHeartbeats 1000000
theorem walk {H : Type} {enc : TypeId × Value → H} {w : World} {base : Nat} {d0 d1 : DataW H} {p0 p1 : List MemPlace} (v : Value) (hval : Value.okWide Try.prog w .any base 22 v) (h0 : DataW.Trod enc Try.prog w 0 (fun _ => true) true 22 v d0 p0)
    (tv : Value) (hval1 : Value.okWide Try.prog w .any base 48 tv) (h1 : DataW.Trod enc Try.prog w 0 (fun _ => true) true 48 tv d1 p1) :
    Calls Try.prog 11 #[v, tv] w fun e w' => e = .returned (.bool true) ∧ Ext w w' := by
  obtain ⟨l, hrd, hlm, hok⟩ : ∃ l : List Att, RdA w v l ∧ l.length ≤ maxLen ∧ ∀ x ∈ l, okAttr x := by
    obtain ⟨a0, len, cap, rfl⟩ := okWide_slice Try.underlying22 hval
    obtain ⟨fuel, hf⟩ := h0
    exact open_AttrS (r := .any) (base := 0) ⟨_, _, _, rfl⟩ hf
  obtain ⟨ts, hrt, htm⟩ : ∃ ts : List Int, RdI w tv ts ∧ ts.length ≤ maxLen := by
    obtain ⟨a0, len, cap, rfl⟩ := okWide_slice Try.underlying48 hval1
    obtain ⟨fuel, hf⟩ := h1
    exact open_IntS ⟨_, _, _, rfl⟩ hf
  have HR := Lib.hid hrd
  have HT := Lib.hid hrt
  have HO := Lib.hid (fun x (hx : x ∈ l) => (hok x hx).2.2)
  obtain ⟨B, d, rfl, hd, _⟩ := hrt
  clear hrd hok hval h0 hval1 h1
  unfold maxLen at htm
  by_cases htl : ts.length ≤ 1048576
  · go_enter Try.func11, Try.ntmps11
    go_wp2_with fail
    refine (laws_szAttrS_any _ l _ HR.out hlm HO.out).mono ?_
    rintro e w1 ⟨⟨r, rfl, hr⟩, E1⟩
    by_cases hr0 : r < 0
    · clear hr
      go_wp2
      go_ret
      exact ⟨rfl, E1⟩
    have hl := hr (by omega)
    clear hr
    go_wp2_with fail
    refine (laws_toAttrS_any _ l _ (HR.out.ext E1) hl).mono ?_
    rintro e w2 ⟨u2, rfl, O2, F2⟩
    have E2 := E1.trans F2
    have R2 := Lib.hid (Own.rd O2 Att.len)
    clear O2
    go_wp2_with fail
    refine (laws_toIntS_any _ ts _ (HT.out.ext E2) htl).mono ?_
    rintro e w3 ⟨u3, rfl, O3, F3⟩
    have E3 := E2.trans F3
    have R3 := Lib.hid (Own.rd O3 icell_len)
    clear O3
    go_wp2_with fail
    refine (spec_FindAttr_any _ l _ ts _ (R2.out.ext F3) hl R3.out htl).mono ?_
    rintro e w4 ⟨rfl, F4⟩
    have E4 := E3.trans F4
    go_wp2_with fail
    refine (laws_toAttrS_any _ l _ (HR.out.ext E4) hl).mono ?_
    rintro e w5 ⟨u5, rfl, O5, F5⟩
    have E5 := E4.trans F5
    have R5 := Lib.hid (Own.rd O5 Att.len)
    clear O5
    go_wp2_with fail
    refine (laws_toIntS_any _ ts _ (HT.out.ext E5) htl).mono ?_
    rintro e w6 ⟨u6, rfl, O6, F6⟩
    have E6 := E5.trans F6
    have R6 := Lib.hid (Own.rd O6 icell_len)
    clear O6
    go_wp2_with fail
    refine (impl_FindAttr_any _ l _ ts _ (R5.out.ext F6) hl R6.out htl).mono ?_
    rintro e w7 ⟨rfl, F7⟩
    have E7 := E6.trans F7
    go_wp2_with fail
    refine (laws_toAttrS_any _ l _ (HR.out.ext E7) hl).mono ?_
    rintro e w8 ⟨u8, rfl, O8, F8⟩
    have E8 := E7.trans F8
    have R8 := Lib.hid (Own.rd O8 Att.len)
    clear O8
    go_wp2_with fail
    refine (laws_eqAttrS_any _ _ l _ (R5.out.ext ((F6.trans F7).trans F8)) R8.out (by omega)).mono ?_
    rintro e w9 ⟨rfl, F9⟩
    have E9 := E8.trans F9
    go_wp2_with fail
    refine (laws_toIntS_any _ ts _ (HT.out.ext E9) htl).mono ?_
    rintro e w10 ⟨u10, rfl, O10, F10⟩
    have E10 := E9.trans F10
    have R10 := Lib.hid (Own.rd O10 icell_len)
    clear O10
    go_wp2_with fail
    refine (laws_eqIntS_any _ _ ts _ (R6.out.ext (((F7.trans F8).trans F9).trans F10)) R10.out (by omega)).mono ?_
    rintro e w11 ⟨rfl, F11⟩
    go_wp2
    go_ret
    exact ⟨rfl, E10.trans F11⟩
  · go_enter Try.func11, Try.ntmps11
    go_wp2
    go_ret
    exact ⟨rfl, Ext.refl _⟩

theorem own : ownKnob Try.prog.godebug = none := by kernel_rfl
theorem laidOut : laidOutB Try.prog = true := by kernel_rfl
set_option maxRecDepth 100000 in
theorem lifted (os : Os) (started : os.Started) (H : Type) (enc : TypeId × Value → H) :
    ReturnsInHanded {} Try.checked os 11 .any (Rows.fnExactFindAttrSpec.pre6 enc Try.prog Try.f11 Rows.fnExactFindAttrRow.domain false) (Rows.fnExactFindAttrSpec.post enc Try.prog Try.f11 false true false false) := by
  refine returnsInHanded_of_change (C := Try.checked) own started (by kernel_rfl) Try.func11
    (ChangeSpec.witness6 (enc := enc) (C := Try.checked) false ⟨#[], #[.slice none 0 0, .slice none 0 0], []⟩ 8 (by kernel_rfl) (by kernel_rfl) (by kernel_rfl) (by kernel_rfl)) ?_
  intro W base args ds gs before hval0 hW hcnd _
  have hval : ∀ (j : Nat) t v, Try.f11.params[j]? = some t → args[j]? = some v → Value.okWide Try.prog W .any base t v := hval0
  have hW' := hW
  obtain ⟨p, q, hA0, hV, rfl, hfz, hnd⟩ := hW
  have hA : DataW.TrodAll enc Try.prog W 0 (fun _ => true) true Try.f11.params.toList args.toList ds p := hA0
  have hAk := hA
  rw [Try.params11] at hA hval
  obtain ⟨v0, vs0, d0, ds0, p0, q0, hargs, rfl, rfl, h0, r0⟩ := trodAll_cons hA
  obtain ⟨v1, vs1, d1, ds1, p1, q1, rfl, rfl, rfl, h1, r1⟩ := trodAll_cons r0
  obtain ⟨rfl, rfl, rfl⟩ := trodAll_nil r1
  obtain rfl : args = #[v0, v1] := by cases args; simp_all
  obtain ⟨rfl, rfl⟩ := trodVars_none hV
  simp only [List.append_nil] at hW' hAk
  refine Calls.mono (R := fun e W' => e = .returned (.bool true) ∧ Ext W W') ?_ (fun e W' hh => ?_)
  rotate_left
  · obtain ⟨rfl, hx⟩ := hh
    exact ⟨_, rfl, law_post laidOut hW' rfl hAk (of_decide_eq_true (by kernel_rfl)) rfl Try.underlying4 rfl rfl rfl hx⟩
  clear hA0 hval0 hW' hAk hfz hnd
  exact walk (w := W) v0 (hval 0 22 v0 rfl rfl) h0 v1 (hval 1 48 v1 rfl rfl) h1

theorem over : Rows.fnExactFindAttrRow.holds Try.pinned (OpenSpec.ofChange Rows.fnExactFindAttrSpec) :=
  OpenClaim.holds_of_wide 11 Try.f11 rfl rfl rfl rfl rfl rfl rfl ⟨rfl, rfl, rfl, rfl, rfl⟩ rfl rfl rfl rfl rfl (by kernel_rfl) Try.func11 (by kernel_rfl)
    (of_decide_eq_true (by kernel_rfl)) (by unfold Func.isWrapper; first | (rw [if_pos (by decide +kernel)]; kernel_rfl) | (rw [if_neg (by decide +kernel)]; exact ⟨rfl, rfl⟩))
    (fun os started H enc _ => lifted os started H enc)

end Go.Proofs.Ytifhjhgccknndaa.LFindAttr
namespace Go.Proofs.Ytifhjhgccknndaa
theorem provedFnExactFindAttr : Rows.FnExactFindAttrSaid := LFindAttr.over
#print axioms provedFnExactFindAttr
end Go.Proofs.Ytifhjhgccknndaa
