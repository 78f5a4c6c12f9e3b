/- Contracts: attributes without one. -/
import Derived.Test.YtifhjhgccknndaaAttU
import Derived.Test.YtifhjhgccknndaaMem2
import Derived.Lib.AppendZerosOnto
import Derived.Lib.SliceRun
import Derived.RegionTactic
import Derived.Deep.RegionWith
namespace Go.Proofs.Ytifhjhgccknndaa
open Go.RowKit
set_option maxHeartbeats 1000000
set_option linter.unusedSimpArgs false
set_option linter.unusedVariables false

theorem app_atts {ops : Array Oper} {rest : List Oper} {o : Oper} {a : Act} {Q : Exit → Act → World → Prop} {w wr : World} {v y : Value} {l ys : List Att} {s x : Operand} (hown : Own wr w.heap.size 62 4 Att.cells v l) (hsrc : Src wr 4 Att.cells y ys) (hn : l.length + ys.length ≤ 100000000) (hE : Ext w wr)
    (hgd : o.guard = none) (ho : o.op = .call { callee := .builtin .append, args := #[s, x], argTypes := #[25, 25] })
    (hs : a.eval s = v) (hx : a.eval x = y)
    (h : ∀ v' w', Own w' w.heap.size 62 4 Att.cells v' (l ++ ys) → Ext w w' → wpList Try.prog ops Q rest (a.put o.dst v') w') : wpList Try.prog ops Q (o :: rest) a wr := by
  obtain ⟨i0, ii0, ii1, ii2, ii3⟩ := info_parts info_Attr
  exact own_app_src Try.underlying25 ii0 ii1 ii2 ii3 rfl (by omega) (by omega) Att.len (fun x u hu => by simp [Att.cells] at hu; rcases hu with rfl | rfl | rfl | rfl <;> rfl) w wr hgd s x ho v y l ys hs hx hsrc hown hn hE h

theorem spec_tvOwn_any (v : Value) (l : List Att) (w : World) (h : Src w 4 Att.cells v l) (hl : l.length ≤ 1048576) :
    Calls Try.prog 79 #[v] w fun e w' => ∃ u, e = .returned u ∧ Own w' w.heap.size 62 4 Att.cells u l ∧ Ext w w' := by
  have H := Lib.hid h
  clear h
  have HO := Lib.hid (show Own (w.alloc (.cells #[] 62)) w.heap.size 62 4 Att.cells (.slice (some ⟨w.heap.size, 0, none⟩) 0 0) [] from World.ownsRow_lit (base := w.heap.size) (e := 62) (size := 4) w #[] 0 (Nat.le_refl _) (by unfold maxLen; omega) rfl)
  go_enter Try.func79, Try.ntmps79
  go_wp2_with (at_builtin; refine app_atts HO.out (H.out.ext ((Ext.refl _).alloc _)) (by simp; omega) ((Ext.refl _).alloc _) rfl rfl rfl rfl ?_; intro v1 w2 hown1 hx2)
  have HO1 := Lib.hid hown1
  clear hown1
  go_wp2
  go_ret
  exact ⟨_, rfl, HO1.out, hx2⟩

def dropL (l : List Att) (n : Nat) : List Att := l.take n ++ l.drop (endN l n)
def drV (l : List Att) (i : Int) : List Att := if hasB l i then dropL l i.toNat else []
theorem drV_len (l : List Att) (i : Int) : (drV l i).length ≤ l.length := by
  unfold drV
  split
  · rename_i h
    obtain ⟨_, h0, h1⟩ := hasB_parts h
    have := endN_lt l i.toNat (by omega)
    unfold dropL; simp; omega
  · simp
/-- What is left behind an index, as the program's slice expression gives it. -/
def tailV (b o n c e : Nat) : Value := .slice (some ⟨b, if e = c then o else o + e * 4, none⟩) (n - e) (c - e)
theorem tail_src {w : World} {b o c e : Nat} {l : List Att} (h : Src w 4 Att.cells (.slice (some ⟨b, o, none⟩) l.length c) l) (he : e ≤ l.length) : Src w 4 Att.cells (tailV b o l.length c e) (l.drop e) := by
  unfold tailV
  by_cases hc : e = c
  · rw [if_pos hc]
    have hl : l.length ≤ c := by
      rcases h with ⟨h, _⟩ | ⟨_, _, _, hv, hc, _⟩
      · cases h
      · injection hv with _ _ h2; omega
    rw [List.drop_eq_nil_of_le (by omega), show l.length - e = 0 by omega, show c - e = 0 by omega]
    exact Src.none_left _ _ _ _ _ _ (by unfold maxLen; omega)
  · rw [if_neg hc]
    exact h.drop e
theorem spec_DropAttr_any (v : Value) (l : List Att) (i : Int) (w : World) (h : Src w 4 Att.cells v l) (hl : l.length ≤ 1048576) :
    Calls Try.prog 46 #[v, .int .i64 i] w fun e w' => ∃ u, e = .returned (.tuple #[u, .bool (hasB l i)]) ∧ Own w' w.heap.size 62 4 Att.cells u (drV l i) ∧ Ext w w' := by
  have H := Lib.hid h
  by_cases hh : hasB l i = true
  · obtain ⟨hg, h0, h1⟩ := hasB_parts hh
    obtain ⟨n, rfl⟩ := Int.eq_ofNat_of_zero_le h0
    have hn : n < l.length := by omega
    obtain ⟨he0, he1⟩ := endN_lt l n hn
    rcases h with ⟨_, rfl⟩ | ⟨b, o, c, rfl, hc, hm, _⟩
    · simp at hn
    have HV := Lib.hid (show drV l n = l.take n ++ l.drop (endN l n) by simp [drV, hh, dropL])
    have HT := Lib.hid (H.out.take n (by omega))
    have HD := Lib.hid (tail_src H.out he1)
    clear hg
    unfold maxLen at hm
    go_enter Try.func46, Try.ntmps46
    go_wp2_with fail
    refine (spec_tvHas_any _ l _ _ H.out.rd hl).mono ?_
    rintro e w1 ⟨rfl, E1⟩
    rw [hh]
    go_wp2_with fail
    refine (spec_tvOwn_any _ (l.take n) _ (HT.out.ext E1) (by simp; omega)).mono ?_
    rintro e w2 ⟨u2, rfl, O2, F2⟩
    have E2 := E1.trans F2
    have HO2 := Lib.hid (Own.mono O2 (Ext.size E1))
    clear O2
    go_wp2_with fail
    refine (spec_tvEnd_any _ l n _ (H.out.ext E2).rd (by omega) hn).mono ?_
    rintro e w3 ⟨rfl, F3⟩
    have E3 := E2.trans F3
    by_cases hce : endN l n = c
    · have HDN := Lib.hid (show l.drop (endN l n) = [] from List.drop_eq_nil_of_le (by omega))
      subst hce
      go_wp2_with (at_builtin; refine app_atts (ys := l.drop (endN l n)) (Own.ext HO2.out F3) (by rw [HDN.out]; exact Src.none_left _ _ _ _ _ _ (by unfold maxLen; omega)) (by simp; omega) E3 rfl rfl rfl rfl ?_; intro v1 w4 hown1 hx4)
      have HO1 := Lib.hid hown1
      clear hown1
      go_wp2
      go_ret2
      exact ⟨_, by rw [hh]; rfl, by rw [HV.out]; exact HO1.out, hx4⟩
    · have hlt : endN l n < c := by omega
      have HVT := Lib.hid (show tailV b o l.length c (endN l n) = .slice (some ⟨b, o + endN l n * 4, none⟩) (l.length - endN l n) (c - endN l n) by unfold tailV; rw [if_neg hce])
      go_wp2_with (at_builtin; refine app_atts (Own.ext HO2.out F3) (by rw [← HVT.out]; exact HD.out.ext E3) (by simp; omega) E3 rfl rfl rfl rfl ?_; intro v1 w4 hown1 hx4)
      have HO1 := Lib.hid hown1
      clear hown1
      go_wp2
      go_ret2
      exact ⟨_, by rw [hh]; rfl, by rw [HV.out]; exact HO1.out, hx4⟩
  · replace hh : hasB l i = false := by simpa using hh
    have HV := Lib.hid (show drV l i = [] by simp [drV, hh])
    clear h
    go_enter Try.func46, Try.ntmps46
    go_wp2_with fail
    refine (spec_tvHas_any _ l _ _ H.out.rd hl).mono ?_
    rintro e w1 ⟨rfl, E1⟩
    rw [hh]
    go_wp2
    go_ret2
    exact ⟨_, by rw [hh]; rfl, by rw [HV.out]; exact World.ownsRow_nil _ _ _ _, E1⟩

theorem size_zeros (z : Array Value) (n : Nat) : (Builtin.zeroCells z n).size = n * z.size := by
  simp [Builtin.zeroCells]
theorem grow_run (n : Nat) (hn : n ≤ 1048576) (h0 : 0 < n) (w : World) : ∃ (cs : Array Value) (cap : Nat), n ≤ cap ∧ cap ≤ maxLen ∧ cs.size = cap * 4 ∧ ∀ (ty : TypeId),
    (Builtin.append_ #[25, 3] ty #[.slice none 0 0, .int .i64 (n : Int)]).run Try.prog w = .ok (.slice (some ⟨w.heap.size, 0, none⟩) n cap) (w.drew.alloc (.cells cs 62)) := by
  obtain ⟨i0, ii0, ii1, ii2, ii3⟩ := info_parts info_Attr
  have hge := grownCap_ge w n 0 62
  obtain ⟨Z, hZ⟩ : ∃ Z : Value, Z = .agg #[.int .i64 0, .int .i64 0, .bool false, .string ⟨#[]⟩] := ⟨_, rfl⟩
  rw [← hZ] at ii1
  refine ⟨([] : List Value).toArray ++ Builtin.zeroCells Z.cells n ++ Builtin.zeroCells Z.cells (grownCap w n 0 62 - n), grownCap w n 0 62, hge, grownCap_le_maxLen w n 0 62 (by unfold maxLen; omega), ?_, fun ty => ?_⟩
  rotate_left
  · have h := Lib.run_append_grow_zeros w 25 3 ty 62 i0 Z .i64 .i64 Try.underlying25 Try.underlying3 ii0 ii1 none 0 0 [] (run_firstCells_none (w := w.drew) i0.size 0 0 0) n h0 (by rw [ii2]; omega) (by omega) (by omega) (by rw [ii3]; omega) (by rw [Nat.zero_add]; exact growslice_fits h0 (by rw [ii3]; omega))
    rw [Nat.zero_add] at h
    exact h
  · rw [Array.size_append, Array.size_append, size_zeros, size_zeros]
    rw [show Z.cells.size = 4 by rw [hZ]; rfl]
    show 0 + n * 4 + (grownCap w n 0 62 - n) * 4 = _
    omega

theorem slices_Grow_nil (n : Nat) (w : World) (hn : n ≤ 1048576) :
    Calls Try.prog 89 #[.slice none 0 0, .int .i64 (n : Int)] w fun e w' => ∃ u, e = .returned u ∧ Own w' w.heap.size 62 4 Att.cells u [] ∧ Ext w w' := by
  by_cases h0 : 0 < n
  · obtain ⟨cs, cap, hc1, hc2, hcs, hrz⟩ := grow_run n hn h0 w
    have HCS := Lib.hid hcs
    have HRZ := Lib.hid hrz
    have hc2' := hc2
    unfold maxLen at hc2'
    clear hcs hrz
    go_enter Try.func89, Try.ntmps89
    go_wp2_with (at_builtin; refine Lib.wpList_append_run _ rfl _ _ _ _ rfl _ _ rfl rfl _ _ (HRZ.out _) ?_)
    go_ret
    refine ⟨_, rfl, ?_, (Ext.refl _).drew.alloc _⟩
    exact Own.of_blk (l := []) (cap := cap) (Blk.new w.drew _ cs) (Nat.le_refl _) (by simp) hc2 HCS.out (by simp) Att.len
  · obtain rfl : n = 0 := by omega
    go_enter Try.func89, Try.ntmps89
    go_wp2
    go_ret
    exact ⟨_, rfl, World.ownsRow_nil _ _ _ _, Ext.refl _⟩

theorem slices_Concat_two (g : Nat) (s0 s1 : Value) (l0 l1 : List Att) (w : World) (h0 : Src w 4 Att.cells s0 l0) (h1 : Src w 4 Att.cells s1 l1) (hg : g < w.heap.size) (c0 : w.cell? ⟨g, 0, none⟩ = some s0) (c1 : w.cell? ⟨g, 1, none⟩ = some s1) (hl0 : l0.length ≤ 500000) (hl1 : l1.length ≤ 500000) :
    Calls Try.prog 80 #[.slice (some ⟨g, 0, none⟩) 2 2] w fun e w' => ∃ u, e = .returned u ∧ Own w' w.heap.size 62 4 Att.cells u (l0 ++ l1) ∧ Ext w w' := by
  obtain ⟨A0, k0, rfl, _, _⟩ := h0.rd
  obtain ⟨A1, k1, rfl, _, _⟩ := h1.rd
  have H0 := Lib.hid h0
  have H1 := Lib.hid h1
  clear h0 h1
  go_enter Try.func80, Try.ntmps80
  go_wp2
  refine wp_loop_rounds 3 ?_
  rw [rounds_succ]
  go_wp2
  rw [rounds_succ]
  go_wp2
  rw [rounds_succ]
  go_wp2_with fail
  have hgr := slices_Grow_nil (l0.length + l1.length) w (by omega)
  simp only [Int.natCast_add] at hgr
  refine hgr.mono ?_
  clear hgr
  rintro e w1 ⟨u1, rfl, O1, E1⟩
  have HO1 := Lib.hid O1
  clear O1
  have d0 : w1.cell? ⟨g, 0, none⟩ = some (.slice A0 l0.length k0) := by rw [Ext.cell E1 hg]; exact c0
  go_wp2
  refine wp_loop_rounds 3 ?_
  rw [rounds_succ]
  go_wp2_with (at_builtin; refine app_atts HO1.out (H0.out.ext E1) (by simp; omega) E1 rfl rfl rfl rfl ?_; intro v2 w2 hown2 E2)
  have HO2 := Lib.hid hown2
  clear hown2 d0
  have d1 : w2.cell? ⟨g, 1, none⟩ = some (.slice A1 l1.length k1) := by rw [Ext.cell E2 hg]; exact c1
  go_wp2
  rw [rounds_succ]
  go_wp2_with (at_builtin; refine app_atts HO2.out (H1.out.ext E2) (by simp; omega) E2 rfl rfl rfl rfl ?_; intro v3 w3 hown3 E3)
  have HO3 := Lib.hid hown3
  clear hown3 d1
  go_wp2
  rw [rounds_succ]
  go_wp2
  go_ret
  exact ⟨_, rfl, by have := HO3.out; rwa [List.nil_append] at this, E3⟩

theorem impl_DropAttr_any (v : Value) (l : List Att) (i : Int) (w : World) (h : Src w 4 Att.cells v l) (hl : l.length ≤ 1048576) :
    Calls Try.prog 47 #[v, .int .i64 i] w fun e w' => ∃ u, e = .returned (.tuple #[u, .bool (hasB l i)]) ∧ Own w' w.heap.size 62 4 Att.cells u (drV l i) ∧ Ext w w' := by
  have H := Lib.hid h
  by_cases hh : hasB l i = true
  · obtain ⟨hg, h0, h1⟩ := hasB_parts hh
    obtain ⟨n, rfl⟩ := Int.eq_ofNat_of_zero_le h0
    have hn : n < l.length := by omega
    have hl4 := (good_get hg).1
    obtain ⟨he0, he1⟩ := endN_lt l n hn
    rcases h with ⟨_, rfl⟩ | ⟨b, o, c, rfl, hc, hm, _⟩
    · simp at hn
    have HV := Lib.hid (show drV l n = l.take n ++ l.drop (endN l n) by simp [drV, hh, dropL])
    have HT := Lib.hid (H.out.take n (by omega))
    have HD := Lib.hid (tail_src H.out he1)
    clear hg
    unfold maxLen at hm
    go_enter Try.func47, Try.ntmps47
    go_wp2_with fail
    refine (impl_isAttrOf_any _ l _ _ H.out.rd hl).mono ?_
    rintro e w1 ⟨rfl, E1⟩
    rw [hh]
    have E1d := E1.drew
    by_cases hce : endN l n = c
    · have HDN := Lib.hid (show l.drop (endN l n) = [] from List.drop_eq_nil_of_le (by omega))
      subst hce
      go_wp2_with fail
      go_region_with (first | (go_at_call 64; refine (impl_endOf_any _ l n _ (H.out.ext E1d).rd (by omega) hn).mono ?_; rintro e w2 ⟨rfl, F2⟩) | (go_at_call 80; refine (slices_Concat_two _ (.slice (some ⟨b, o, none⟩) n (endN l n)) (.slice (some ⟨b, o, none⟩) 0 0) (l.take n) (l.drop (endN l n)) _ (HT.out.ext ((E1d.trans F2).alloc _)) (by rw [HDN.out]; exact Src.none_left _ _ _ _ _ _ (by unfold maxLen; omega)) (by simp) (by simp) (by simp) (by simp; omega) (by simp; omega)).mono ?_; rintro e w3 ⟨u3, rfl, O3, F3⟩; have HO3 := Lib.hid O3; clear O3))
      all_goals
        go_wp2
        go_ret2
        exact ⟨_, by rw [hh]; rfl, by rw [HV.out]; exact Own.mono HO3.out (by have := Ext.size (E1d.trans F2); simp; omega), ((E1d.trans F2).alloc _).trans F3⟩
    · have hlt : endN l n < c := by omega
      have HVT := Lib.hid (show tailV b o l.length c (endN l n) = .slice (some ⟨b, o + endN l n * 4, none⟩) (l.length - endN l n) (c - endN l n) by unfold tailV; rw [if_neg hce])
      go_wp2_with fail
      go_region_with (first | (go_at_call 64; refine (impl_endOf_any _ l n _ (H.out.ext E1d).rd (by omega) hn).mono ?_; rintro e w2 ⟨rfl, F2⟩) | (go_at_call 80; refine (slices_Concat_two _ (.slice (some ⟨b, o, none⟩) n c) (.slice (some ⟨b, o + endN l n * 4, none⟩) (l.length - endN l n) (c - endN l n)) (l.take n) (l.drop (endN l n)) _ (HT.out.ext ((E1d.trans F2).alloc _)) (by rw [← HVT.out]; exact HD.out.ext ((E1d.trans F2).alloc _)) (by simp) (by simp) (by first | (simp; done) | (simp; omega)) (by simp; omega) (by simp; omega)).mono ?_; rintro e w3 ⟨u3, rfl, O3, F3⟩; have HO3 := Lib.hid O3; clear O3))
      all_goals
        go_wp2
        go_ret2
        exact ⟨_, by rw [hh]; rfl, by rw [HV.out]; exact Own.mono HO3.out (by have := Ext.size (E1d.trans F2); simp; omega), ((E1d.trans F2).alloc _).trans F3⟩
  · replace hh : hasB l i = false := by simpa using hh
    have HV := Lib.hid (show drV l i = [] by simp [drV, hh])
    clear h
    go_enter Try.func47, Try.ntmps47
    go_wp2_with fail
    refine (impl_isAttrOf_any _ l _ _ H.out.rd hl).mono ?_
    rintro e w1 ⟨rfl, E1⟩
    rw [hh]
    go_wp2
    go_ret2
    exact ⟨_, by rw [hh]; rfl, by rw [HV.out]; exact World.ownsRow_nil _ _ _ _, E1⟩
end Go.Proofs.Ytifhjhgccknndaa
