/- 'FnExactMarkedPacket' answers true for every input, and its arguments read as before. No condition. -/
import Derived.Test.YtmciiomhcojaaaaRows
import Derived.Test.YtmciiomhcojaaaaPF2
namespace Go.Proofs.Ytmciiomhcojaaaa.LMarkedPacket
open Go.RowKit Go.WideShapes Go.ChangeShapes Go.ChangeAt
set_option linter.unusedVariables false
set_option linter.unusedSimpArgs false
set_option maxHeartbeats 400000
theorem walk (a b c d e f : Int) (h0 : (Lit.int .i64 a).wf = true) (h1 : (Lit.int .i64 b).wf = true) (h2 : (Lit.int .i64 c).wf = true) (h3 : (Lit.int .i64 d).wf = true) (h4 : (Lit.int .i64 e).wf = true) (h5 : (Lit.int .i64 f).wf = true) (m : Int) (hm : (Lit.int .i64 m).wf = true) (v : Int) (hv : (Lit.int .i64 v).wf = true) (w : World) :
    Calls Try.prog 7 #[pktV a b c d e f, .int .i64 m, .int .i64 v] w fun en w' => en = .returned (.bool true) ∧ Ext w w' := by
  clear h0 h1 h2 h3 h4 h5 hm hv
  go_enter Try.func7, Try.ntmps7
  go_wp2_with fail
  refine (laws_toPacket_any _ _ _ _ _ _ _).mono ?_
  rintro en w1 ⟨rfl, hb1⟩
  have hx1 : ∀ o, w1.cell? ⟨w.heap.size, o, none⟩ = _ := fun o => Ext.cells hb1 _ o (by simp)
  have hs1 : w.heap.size < w1.heap.size := Ext.lts hb1 _ (by simp)
  go_wp2_with fail
  refine (spec_MarkedPacket_any _ _ _ _ _ _ _ _ _).mono ?_
  rintro en w2 ⟨rfl, hb2⟩
  have hx2 : ∀ o, w2.cell? ⟨w.heap.size, o, none⟩ = _ := fun o => Ext.cells hb2 _ o (by omega)
  have hs2 : w.heap.size < w2.heap.size := Ext.lts hb2 _ (by omega)
  go_wp2_with fail
  refine (laws_toPacket_any _ _ _ _ _ _ _).mono ?_
  rintro en w3 ⟨rfl, hb3⟩
  have hx3 : ∀ o, w3.cell? ⟨w2.heap.size, o, none⟩ = _ := fun o => Ext.cells hb3 _ o (by simp)
  have hs3 : w2.heap.size < w3.heap.size := Ext.lts hb3 _ (by simp)
  go_wp2_with fail
  refine (impl_MarkedPacket_any _ _ _ _ _ _ _ _ _).mono ?_
  rintro en w4 ⟨rfl, hb4⟩
  have hx4 : ∀ o, w4.cell? ⟨w2.heap.size, o, none⟩ = _ := fun o => Ext.cells hb4 _ o (by omega)
  have hs4 : w2.heap.size < w4.heap.size := Ext.lts hb4 _ (by omega)
  go_wp2_with fail
  refine (laws_eqPacket_any _ _ _ _ _ _ _).mono ?_
  rintro en w5 ⟨rfl, hb5⟩
  go_wp2
  go_ret
  refine ⟨rfl, ?_⟩
  (repeat (first | (with_reducible exact Ext.refl _) | (with_reducible assumption) | (with_reducible apply Ext.alloc) | (with_reducible apply Ext.drew) | (with_reducible apply Ext.drewN) | ((with_reducible refine Ext.setCell ?_ ?_ _); rotate_left; (focus (first | (simp; done) | (simp; omega) | omega))) | (with_reducible refine Ext.trans ?_ (by assumption))))

theorem own : ownKnob Try.prog.godebug = none := by kernel_rfl
theorem laidOut : laidOutB Try.prog = true := by kernel_rfl
set_option maxRecDepth 100000 in
theorem lifted (os : Os) (started : os.Started) (H : Type) (enc : TypeId × Value → H) :
    ReturnsInHanded {} Try.checked os 7 .any (Rows.fnExactMarkedPacketSpec.pre6 enc Try.prog Try.f7 Rows.fnExactMarkedPacketRow.domain false) (Rows.fnExactMarkedPacketSpec.post enc Try.prog Try.f7 false true false false) := by
  refine returnsInHanded_of_change (C := Try.checked) own started (by kernel_rfl) Try.func7
    (ChangeSpec.witness6 (enc := enc) (C := Try.checked) false ⟨#[], #[.agg #[.int .i64 0, .int .i64 0, .int .i64 0, .int .i64 0, .int .i64 0, .int .i64 0], .int .i64 0, .int .i64 0], []⟩ 8 (by kernel_rfl) (by kernel_rfl) (by kernel_rfl) (by kernel_rfl)) ?_
  intro W base args ds gs before hval0 hW hcnd _
  have hval : ∀ (j : Nat) t v, Try.f7.params[j]? = some t → args[j]? = some v → Value.okWide Try.prog W .any base t v := hval0
  have hW' := hW
  obtain ⟨p, q, hA0, hV, rfl, hfz, hnd⟩ := hW
  have hA : DataW.TrodAll enc Try.prog W 0 (fun _ => true) true Try.f7.params.toList args.toList ds p := hA0
  have hAk := hA
  rw [Try.params7] at hA hval
  obtain ⟨v0, vs0, d0, ds0, p0, q0, hargs, rfl, rfl, h0, r0⟩ := trodAll_cons hA
  obtain ⟨v1, vs1, d1, ds1, p1, q1, rfl, rfl, rfl, h1, r1⟩ := trodAll_cons r0
  obtain ⟨v2, vs2, d2, ds2, p2, q2, rfl, rfl, rfl, h2, r2⟩ := trodAll_cons r1
  obtain ⟨rfl, rfl, rfl⟩ := trodAll_nil r2
  obtain rfl : args = #[v0, v1, v2] := by cases args; simp_all
  obtain ⟨rfl, rfl⟩ := trodVars_none hV
  simp only [List.append_nil] at hW' hAk
  refine Calls.mono (R := fun e W' => e = .returned (.bool true) ∧ Ext W W') ?_ (fun e W' hh => ?_)
  rotate_left
  · obtain ⟨rfl, hx⟩ := hh
    exact ⟨_, rfl, law_post laidOut hW' rfl hAk (of_decide_eq_true (by kernel_rfl)) rfl Try.underlying4 rfl rfl rfl hx⟩
  clear hA0 hval0 hW' hAk hfz hnd
  obtain ⟨c0_0, c0_1, c0_2, c0_3, c0_4, c0_5, y0_0, y0_1, y0_2, y0_3, y0_4, y0_5, m0, rfl, rfl, rfl, g0_0, g0_1, g0_2, g0_3, g0_4, g0_5⟩ := open_agg6 Try.underlying23 (by kernel_rfl) (by kernel_rfl) (hval 0 23 v0 rfl rfl) h0
  obtain ⟨a0_0, e0_0, _, wf0_0⟩ := DataW.trod_int Try.underlying3 g0_0
  obtain rfl : c0_0 = .int .i64 a0_0 := by simpa using e0_0
  obtain ⟨a0_1, e0_1, _, wf0_1⟩ := DataW.trod_int Try.underlying3 g0_1
  obtain rfl : c0_1 = .int .i64 a0_1 := by simpa using e0_1
  obtain ⟨a0_2, e0_2, _, wf0_2⟩ := DataW.trod_int Try.underlying3 g0_2
  obtain rfl : c0_2 = .int .i64 a0_2 := by simpa using e0_2
  obtain ⟨a0_3, e0_3, _, wf0_3⟩ := DataW.trod_int Try.underlying3 g0_3
  obtain rfl : c0_3 = .int .i64 a0_3 := by simpa using e0_3
  obtain ⟨a0_4, e0_4, _, wf0_4⟩ := DataW.trod_int Try.underlying3 g0_4
  obtain rfl : c0_4 = .int .i64 a0_4 := by simpa using e0_4
  obtain ⟨a0_5, e0_5, _, wf0_5⟩ := DataW.trod_int Try.underlying3 g0_5
  obtain rfl : c0_5 = .int .i64 a0_5 := by simpa using e0_5
  obtain ⟨a1, rfl, rfl, rfl, wf1⟩ := open_int Try.underlying3 (hval 1 3 v1 rfl rfl) h1
  obtain ⟨a2, rfl, rfl, rfl, wf2⟩ := open_int Try.underlying3 (hval 2 3 v2 rfl rfl) h2
  exact walk a0_0 a0_1 a0_2 a0_3 a0_4 a0_5 wf0_0 wf0_1 wf0_2 wf0_3 wf0_4 wf0_5 a1 wf1 a2 wf2 W

theorem over : Rows.fnExactMarkedPacketRow.holds Try.pinned (OpenSpec.ofChange Rows.fnExactMarkedPacketSpec) :=
  OpenClaim.holds_of_wide 7 Try.f7 rfl rfl rfl rfl rfl rfl rfl ⟨rfl, rfl, rfl, rfl, rfl⟩ rfl rfl rfl rfl rfl (by kernel_rfl) Try.func7 (by kernel_rfl)
    (of_decide_eq_true (by kernel_rfl)) (by unfold Func.isWrapper; first | (rw [if_pos (by decide +kernel)]; kernel_rfl) | (rw [if_neg (by decide +kernel)]; exact ⟨rfl, rfl⟩))
    (fun os started H enc _ => lifted os started H enc)

end Go.Proofs.Ytmciiomhcojaaaa.LMarkedPacket
namespace Go.Proofs.Ytmciiomhcojaaaa
theorem provedFnExactMarkedPacket : Rows.FnExactMarkedPacketSaid := LMarkedPacket.over
#print axioms provedFnExactMarkedPacket
end Go.Proofs.Ytmciiomhcojaaaa
