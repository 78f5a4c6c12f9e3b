/- Copies of configurations: contracts of both sides. Printed by wip/tools/gen_cfgm.py. -/
import Derived.Test.YtidahgoihgodnaaDoorCfgC
import Derived.Deep.RegionHeld3
namespace Go.Proofs.YtidahgoihgodnaaDoor
open Go.RowKit
set_option maxRecDepth 20000
set_option maxHeartbeats 4000000
set_option linter.unusedSimpArgs false
set_option linter.unusedVariables false

theorem impl_cloneConfig_any (n : ByteArray) (cv fv : Value) (d : Int) (cs : List Cls) (fs : List Flt) (w : World) (hc : SrcC w cv cs) (hf : SrcF w fv fs) (hcl : cs.length ≤ 1048576) (hfl : fs.length ≤ 1048576) :
    Calls Tryd.prog 29 #[cfgV n cv fv d] w fun e w' => ∃ u1 u2, e = .returned (cfgV n u1 u2 d) ∧ OwnC w' w.heap.size u1 cs ∧ OwnF w' w.heap.size u2 fs ∧ Ext w w' := by
  have HC := Lib.hid hc
  have HF := Lib.hid hf
  clear hc hf
  have E0 : Ext w ((w.alloc (.cells #[.string n, cv, fv, .int .i64 d] 30)).alloc (.cells #[.string ⟨#[]⟩, .slice none 0 0, .slice none 0 0, .int .i64 0] 30)) := by (repeat (first | (with_reducible exact Ext.refl _) | (with_reducible assumption) | (with_reducible apply Ext.alloc) | (with_reducible apply Ext.drew) | (with_reducible apply Ext.drewN) | ((with_reducible refine Ext.setCell ?_ ?_ _); rotate_left; (focus (first | (simp; done) | (simp; omega) | omega))) | (with_reducible refine Ext.trans ?_ (by assumption))))
  have BX := Lib.hid ((Box.new w n cv fv d 30).ext ((Ext.refl _).alloc (.cells #[.string ⟨#[]⟩, .slice none 0 0, .slice none 0 0, .int .i64 0] 30)))
  have BR := Lib.hid (show Blk ((w.alloc (.cells #[.string n, cv, fv, .int .i64 d] 30)).alloc (.cells #[.string ⟨#[]⟩, .slice none 0 0, .slice none 0 0, .int .i64 0] 30)) (w.heap.size + 1) 30 #[.string ⟨#[]⟩, .slice none 0 0, .slice none 0 0, .int .i64 0] by
    have := Blk.new (w.alloc (.cells #[.string n, cv, fv, .int .i64 d] 30)) 30 #[.string ⟨#[]⟩, .slice none 0 0, .slice none 0 0, .int .i64 0]
    simpa using this)
  go_enter Tryd.func29, Tryd.ntmps29
  have q00 := BX.out
  obtain ⟨q0, q1, q2, q3, q4⟩ := q00
  go_wp2_with fail
  go_region_held3 (fun w' => w'.cell? ⟨w.heap.size, 0, none⟩ = some (.string n) ∧ w'.cell? ⟨w.heap.size, 1, none⟩ = some cv ∧ w'.cell? ⟨w.heap.size, 2, none⟩ = some fv ∧ w'.cell? ⟨w.heap.size, 3, none⟩ = some (.int .i64 d)) (first | exact ⟨q0, q1, q2, q3⟩ | go_keep)
    (first | (go_at_call 59; refine (clone_Class_any _ cs _ (HC.out.ext (by (repeat (first | (with_reducible exact Ext.refl _) | (with_reducible assumption) | (with_reducible apply Ext.alloc) | (with_reducible apply Ext.drew) | (with_reducible apply Ext.drewN) | ((with_reducible refine Ext.setCell ?_ ?_ _); rotate_left; (focus (first | (simp; done) | (simp; omega) | omega))) | (with_reducible refine Ext.trans ?_ (by assumption)))))) hcl).mono ?_; rintro e w1 ⟨u1, rfl, O1, F1⟩; obtain ⟨A1, k1, rfl, _, _⟩ := Own.rd O1 Cls.len; have HO1 := Lib.hid O1; clear O1; have X1 : Ext ((w.alloc (.cells #[.string n, cv, fv, .int .i64 d] 30)).alloc (.cells #[.string ⟨#[]⟩, .slice none 0 0, .slice none 0 0, .int .i64 0] 30)) w1 := (by (repeat (first | (with_reducible exact Ext.refl _) | (with_reducible assumption) | (with_reducible apply Ext.alloc) | (with_reducible apply Ext.drew) | (with_reducible apply Ext.drewN) | ((with_reducible refine Ext.setCell ?_ ?_ _); rotate_left; (focus (first | (simp; done) | (simp; omega) | omega))) | (with_reducible refine Ext.trans ?_ (by assumption))))); obtain ⟨q0, q1, q2, q3, q4⟩ := BX.out.ext X1; obtain ⟨⟨r0, r1, r2, r3⟩, ⟨f0, f1, f2, f3⟩, hfz⟩ := C4.blk (BR.out.ext X1)) | (go_at_call 60; refine (clone_Filter_any _ fs _ (HF.out.ext (by (repeat (first | (with_reducible exact Ext.refl _) | (with_reducible assumption) | (with_reducible apply Ext.alloc) | (with_reducible apply Ext.drew) | (with_reducible apply Ext.drewN) | ((with_reducible refine Ext.setCell ?_ ?_ _); rotate_left; (focus (first | (simp; done) | (simp; omega) | omega))) | (with_reducible refine Ext.trans ?_ (by assumption)))))) hfl).mono ?_; rintro e w2 ⟨u2, rfl, O2, F2⟩; obtain ⟨A2, k2, rfl, _, _⟩ := Own.rd O2 Flt.len; have HO2 := Lib.hid O2; clear O2; have X2 : Ext ((w.alloc (.cells #[.string n, cv, fv, .int .i64 d] 30)).alloc (.cells #[.string ⟨#[]⟩, .slice none 0 0, .slice none 0 0, .int .i64 0] 30)) w2 := (by (repeat (first | (with_reducible exact Ext.refl _) | (with_reducible assumption) | (with_reducible apply Ext.alloc) | (with_reducible apply Ext.drew) | (with_reducible apply Ext.drewN) | ((with_reducible refine Ext.setCell ?_ ?_ _); rotate_left; (focus (first | (simp; done) | (simp; omega) | omega))) | (with_reducible refine Ext.trans ?_ (by assumption))))); obtain ⟨q0, q1, q2, q3, q4⟩ := BX.out.ext X2; obtain ⟨⟨r0, r1, r2, r3⟩, ⟨f0, f1, f2, f3⟩, hfz⟩ := C4.blk (BR.out.ext X2)))
  go_wp2
  have S1 := Ext.size X1
  have S0 := E0.size
  simp at S1 S0
  refine bodyPost_ret (v := cfgV n (.slice A1 cs.length k1) (.slice A2 fs.length k2) d) (by simp [results, Tryd.results29, go_sem, *]) rfl ⟨_, _, rfl, ?_, ?_, ?_⟩
  · refine Own.mono (base := w.heap.size + 2) ?_ (by omega)
    repeat (with_reducible refine Own.setCell ?_ (by omega) _ _)
    exact Own.ext (Own.mono HO1.out (by simp)) F2
  · refine Own.mono (base := w.heap.size + 2) ?_ (by omega)
    repeat (with_reducible refine Own.setCell ?_ (by omega) _ _)
    exact Own.mono HO2.out (by omega)
  · (repeat (first | (with_reducible exact Ext.refl _) | (with_reducible assumption) | (with_reducible apply Ext.alloc) | (with_reducible apply Ext.drew) | (with_reducible apply Ext.drewN) | ((with_reducible refine Ext.setCell ?_ ?_ _); rotate_left; (focus (first | (simp; done) | (simp; omega) | omega))) | (with_reducible refine Ext.trans ?_ (by assumption))))
/-- 'append(fresh, src...)' as a step of a region that draws its order: rows of the other kind are kept. -/
theorem step_freshC {ops : Array Oper} {o : Oper} {a : Act} {K : Act → World → Prop} {Q : Exit → Act → World → Prop} {EE : Prop} (W0 : World) (g : Nat) (wr : World) (hg : o.guard = none) (s x : Operand)
    (ho : o.op = .call { callee := .builtin .append, args := #[s, x], argTypes := #[27, 27] }) (y : Value) (ys : List Cls) (hs : a.eval s = .slice (some ⟨g, 0, none⟩) 0 0) (hx : a.eval x = y)
    (hsrc : SrcC wr y ys) (hB : Blk wr g 47 #[]) (hb : W0.heap.size ≤ g) (hn : ys.length ≤ 1048576) (hE : Ext W0 wr)
    (hK : ∀ A c w', OwnC w' W0.heap.size (.slice A ys.length c) ys → Ext W0 w' → KB (fun k => k = g) wr w' → (∀ u l, OwnF wr W0.heap.size u l → OwnF w' W0.heap.size u l) → K (a.put o.dst (.slice A ys.length c)) w') :
    if Region.wanted o (yielded ops a.tmps) = true then Oper.wp Tryd.prog o a wr K Q else EE := by
  obtain ⟨i0, ii0, ii1, ii2, ii3⟩ := info_parts info_Class
  have hown : OwnC wr W0.heap.size (.slice (some ⟨g, 0, none⟩) ([] : List Cls).length 0) [] := Own.of_blk hB hb (Nat.le_refl _) (by unfold maxLen; omega) rfl rfl Cls.len
  refine step_own_src Tryd.underlying27 ii0 ii1 ii2 ii3 rfl (by omega) (by omega) Cls.len cls_one W0.heap.size wr hg s x ho _ y [] ys hs hx hsrc hown (by simp; omega) (Ext.size hE) ?_
  intro v' w' ho' hgr
  obtain ⟨A, c, rfl, _, _⟩ := Own.rd ho' Cls.len
  have hk := KB.of_grown hgr
  refine hK A c w' ho' (Ext.grown hE hgr (fun k hk' => by cases hk'; exact hb)) (KB.mono hk (fun i hi => by cases hi; rfl)) (fun u l hu => Own.kb hu hk (fun g' hg' he => ?_))
  cases he
  rcases hu.2 with ⟨h1, _⟩ | ⟨g1, c1, cur1, h1, _, hh1, _⟩
  · subst h1; cases hg'
  · subst h1
    cases hg'
    unfold Blk at hB
    rw [hB] at hh1
    injection hh1 with hh1
    injection hh1 with _ h3 _
    exact absurd h3 (by decide)
/-- 'append(fresh, src...)' as a step of a region that draws its order: rows of the other kind are kept. -/
theorem step_freshF {ops : Array Oper} {o : Oper} {a : Act} {K : Act → World → Prop} {Q : Exit → Act → World → Prop} {EE : Prop} (W0 : World) (g : Nat) (wr : World) (hg : o.guard = none) (s x : Operand)
    (ho : o.op = .call { callee := .builtin .append, args := #[s, x], argTypes := #[28, 28] }) (y : Value) (ys : List Flt) (hs : a.eval s = .slice (some ⟨g, 0, none⟩) 0 0) (hx : a.eval x = y)
    (hsrc : SrcF wr y ys) (hB : Blk wr g 66 #[]) (hb : W0.heap.size ≤ g) (hn : ys.length ≤ 1048576) (hE : Ext W0 wr)
    (hK : ∀ A c w', OwnF w' W0.heap.size (.slice A ys.length c) ys → Ext W0 w' → KB (fun k => k = g) wr w' → (∀ u l, OwnC wr W0.heap.size u l → OwnC w' W0.heap.size u l) → K (a.put o.dst (.slice A ys.length c)) w') :
    if Region.wanted o (yielded ops a.tmps) = true then Oper.wp Tryd.prog o a wr K Q else EE := by
  obtain ⟨i0, ii0, ii1, ii2, ii3⟩ := info_parts info_Filter5
  have hown : OwnF wr W0.heap.size (.slice (some ⟨g, 0, none⟩) ([] : List Flt).length 0) [] := Own.of_blk hB hb (Nat.le_refl _) (by unfold maxLen; omega) rfl rfl Flt.len
  refine step_own_src Tryd.underlying28 ii0 ii1 ii2 ii3 rfl (by omega) (by omega) Flt.len flt_one W0.heap.size wr hg s x ho _ y [] ys hs hx hsrc hown (by simp; omega) (Ext.size hE) ?_
  intro v' w' ho' hgr
  obtain ⟨A, c, rfl, _, _⟩ := Own.rd ho' Flt.len
  have hk := KB.of_grown hgr
  refine hK A c w' ho' (Ext.grown hE hgr (fun k hk' => by cases hk'; exact hb)) (KB.mono hk (fun i hi => by cases hi; rfl)) (fun u l hu => Own.kb hu hk (fun g' hg' he => ?_))
  cases he
  rcases hu.2 with ⟨h1, _⟩ | ⟨g1, c1, cur1, h1, _, hh1, _⟩
  · subst h1; cases hg'
  · subst h1
    cases hg'
    unfold Blk at hB
    rw [hB] at hh1
    injection hh1 with hh1
    injection hh1 with _ h3 _
    exact absurd h3 (by decide)
theorem blk_new {W : World} {g : Nat} {e : TypeId} (h : g = W.heap.size) : Blk (W.alloc (.cells #[] e)) g e #[] := by
  subst h
  exact Blk.new _ _ _
theorem blk_new2 {W : World} {g : Nat} {e : TypeId} {o : Obj} (h : g = W.heap.size) : Blk ((W.alloc (.cells #[] e)).alloc o) g e #[] := (blk_new h).ext ((Ext.refl _).alloc _)
theorem Blk.drew {W : World} {g : Nat} {e : TypeId} {cs : Array Value} (h : Blk W g e cs) : Blk W.drew g e cs := h.ext (Ext.refl W).drew
theorem Blk.kb {a b : World} {S : Nat → Prop} {g : Nat} {e : TypeId} {cs : Array Value} (hk : KB S a b) (h : Blk a g e cs) (hS : ¬ S g) : Blk b g e cs := (hk.block g h.lt hS).trans h
theorem spec_cfOwn_any (n : ByteArray) (cv fv : Value) (d : Int) (cs : List Cls) (fs : List Flt) (w : World) (hc : SrcC w cv cs) (hf : SrcF w fv fs) (hcl : cs.length ≤ 1048576) (hfl : fs.length ≤ 1048576) :
    Calls Tryd.prog 21 #[cfgV n cv fv d] w fun e w' => ∃ u1 u2, e = .returned (cfgV n u1 u2 d) ∧ OwnC w' w.heap.size u1 cs ∧ OwnF w' w.heap.size u2 fs ∧ Ext w w' := by
  have HC := Lib.hid hc
  have HF := Lib.hid hf
  clear hc hf
  have E0 : Ext w ((w.alloc (.cells #[.string n, cv, fv, .int .i64 d] 30)).alloc (.cells #[.string ⟨#[]⟩, .slice none 0 0, .slice none 0 0, .int .i64 0] 30)) := by (repeat (first | (with_reducible exact Ext.refl _) | (with_reducible assumption) | (with_reducible apply Ext.alloc) | (with_reducible apply Ext.drew) | (with_reducible apply Ext.drewN) | ((with_reducible refine Ext.setCell ?_ ?_ _); rotate_left; (focus (first | (simp; done) | (simp; omega) | omega))) | (with_reducible refine Ext.trans ?_ (by assumption))))
  have BX := Lib.hid ((Box.new w n cv fv d 30).ext ((Ext.refl _).alloc (.cells #[.string ⟨#[]⟩, .slice none 0 0, .slice none 0 0, .int .i64 0] 30)))
  have BR := Lib.hid (show Blk ((w.alloc (.cells #[.string n, cv, fv, .int .i64 d] 30)).alloc (.cells #[.string ⟨#[]⟩, .slice none 0 0, .slice none 0 0, .int .i64 0] 30)) (w.heap.size + 1) 30 #[.string ⟨#[]⟩, .slice none 0 0, .slice none 0 0, .int .i64 0] by
    have := Blk.new (w.alloc (.cells #[.string n, cv, fv, .int .i64 d] 30)) 30 #[.string ⟨#[]⟩, .slice none 0 0, .slice none 0 0, .int .i64 0]
    simpa using this)
  go_enter Tryd.func21, Tryd.ntmps21
  have q00 := BX.out
  obtain ⟨q0, q1, q2, q3, q4⟩ := q00
  go_wp2_with fail
  go_region_held3? (fun w' => w'.cell? ⟨w.heap.size, 0, none⟩ = some (.string n) ∧ w'.cell? ⟨w.heap.size, 1, none⟩ = some cv ∧ w'.cell? ⟨w.heap.size, 2, none⟩ = some fv ∧ w'.cell? ⟨w.heap.size, 3, none⟩ = some (.int .i64 d)) (first | exact ⟨q0, q1, q2, q3⟩ | go_keep)
    (first | (refine step_freshC ((w.alloc (.cells #[.string n, cv, fv, .int .i64 d] 30)).alloc (.cells #[.string ⟨#[]⟩, .slice none 0 0, .slice none 0 0, .int .i64 0] 30)) _ _ (by rfl) _ _ (by rfl) cv cs (by rfl) (by rfl) (HC.out.ext (by (repeat (first | (with_reducible exact Ext.refl _) | (with_reducible assumption) | (with_reducible apply Ext.alloc) | (with_reducible apply Ext.drew) | (with_reducible apply Ext.drewN) | ((with_reducible refine Ext.setCell ?_ ?_ _); rotate_left; (focus (first | (simp; done) | (simp; omega) | omega))) | (with_reducible refine Ext.trans ?_ (by assumption)))))) (by first | (with_reducible exact (blk_new (by simp))) | (with_reducible exact (blk_new2 (by simp))) | (with_reducible exact (Blk.drew (blk_new (by simp)))) | (with_reducible exact (Blk.drew (blk_new2 (by simp)))) | (with_reducible exact Blk.kb (by assumption) (blk_new (by simp)) (by simp)) | (with_reducible exact Blk.kb (by assumption) (blk_new2 (by simp)) (by simp)) | (with_reducible exact Blk.kb (by assumption) (Blk.drew (blk_new (by simp))) (by simp)) | (with_reducible exact Blk.kb (by assumption) (Blk.drew (blk_new2 (by simp))) (by simp))) (by first | (simp; done) | (simp; omega) | omega) (by omega) (by (repeat (first | (with_reducible exact Ext.refl _) | (with_reducible assumption) | (with_reducible apply Ext.alloc) | (with_reducible apply Ext.drew) | (with_reducible apply Ext.drewN) | ((with_reducible refine Ext.setCell ?_ ?_ _); rotate_left; (focus (first | (simp; done) | (simp; omega) | omega))) | (with_reducible refine Ext.trans ?_ (by assumption))))) ?_; intro A1 k1 w1 O1 X1 K1 J1; have HO1 := Lib.hid O1; clear O1; (try have HO2 := Lib.hid (J1 _ _ (Own.ext HO2.out (by (repeat (first | (with_reducible exact Ext.refl _) | (with_reducible assumption) | (with_reducible apply Ext.alloc) | (with_reducible apply Ext.drew) | (with_reducible apply Ext.drewN) | ((with_reducible refine Ext.setCell ?_ ?_ _); rotate_left; (focus (first | (simp; done) | (simp; omega) | omega))) | (with_reducible refine Ext.trans ?_ (by assumption)))))))); have S1 : w.heap.size + 2 ≤ w1.heap.size := (by have := Ext.size X1; simp at this; omega); clear J1; obtain ⟨q0, q1, q2, q3, q4⟩ := BX.out.ext X1; obtain ⟨⟨r0, r1, r2, r3⟩, ⟨f0, f1, f2, f3⟩, hfz⟩ := C4.blk (BR.out.ext X1)) | (refine step_freshF ((w.alloc (.cells #[.string n, cv, fv, .int .i64 d] 30)).alloc (.cells #[.string ⟨#[]⟩, .slice none 0 0, .slice none 0 0, .int .i64 0] 30)) _ _ (by rfl) _ _ (by rfl) fv fs (by rfl) (by rfl) (HF.out.ext (by (repeat (first | (with_reducible exact Ext.refl _) | (with_reducible assumption) | (with_reducible apply Ext.alloc) | (with_reducible apply Ext.drew) | (with_reducible apply Ext.drewN) | ((with_reducible refine Ext.setCell ?_ ?_ _); rotate_left; (focus (first | (simp; done) | (simp; omega) | omega))) | (with_reducible refine Ext.trans ?_ (by assumption)))))) (by first | (with_reducible exact (blk_new (by simp))) | (with_reducible exact (blk_new2 (by simp))) | (with_reducible exact (Blk.drew (blk_new (by simp)))) | (with_reducible exact (Blk.drew (blk_new2 (by simp)))) | (with_reducible exact Blk.kb (by assumption) (blk_new (by simp)) (by simp)) | (with_reducible exact Blk.kb (by assumption) (blk_new2 (by simp)) (by simp)) | (with_reducible exact Blk.kb (by assumption) (Blk.drew (blk_new (by simp))) (by simp)) | (with_reducible exact Blk.kb (by assumption) (Blk.drew (blk_new2 (by simp))) (by simp))) (by first | (simp; done) | (simp; omega) | omega) (by omega) (by (repeat (first | (with_reducible exact Ext.refl _) | (with_reducible assumption) | (with_reducible apply Ext.alloc) | (with_reducible apply Ext.drew) | (with_reducible apply Ext.drewN) | ((with_reducible refine Ext.setCell ?_ ?_ _); rotate_left; (focus (first | (simp; done) | (simp; omega) | omega))) | (with_reducible refine Ext.trans ?_ (by assumption))))) ?_; intro A2 k2 w2 O2 X2 K2 J2; have HO2 := Lib.hid O2; clear O2; (try have HO1 := Lib.hid (J2 _ _ (Own.ext HO1.out (by (repeat (first | (with_reducible exact Ext.refl _) | (with_reducible assumption) | (with_reducible apply Ext.alloc) | (with_reducible apply Ext.drew) | (with_reducible apply Ext.drewN) | ((with_reducible refine Ext.setCell ?_ ?_ _); rotate_left; (focus (first | (simp; done) | (simp; omega) | omega))) | (with_reducible refine Ext.trans ?_ (by assumption)))))))); have S2 : w.heap.size + 2 ≤ w2.heap.size := (by have := Ext.size X2; simp at this; omega); clear J2; obtain ⟨q0, q1, q2, q3, q4⟩ := BX.out.ext X2; obtain ⟨⟨r0, r1, r2, r3⟩, ⟨f0, f1, f2, f3⟩, hfz⟩ := C4.blk (BR.out.ext X2)))
  all_goals
    go_wp2
    refine bodyPost_ret (v := cfgV n (.slice A1 cs.length k1) (.slice A2 fs.length k2) d) (by simp [results, Tryd.results21, go_sem, *]) rfl ⟨_, _, rfl, ?_, ?_, ?_⟩
    · refine Own.mono (base := w.heap.size + 2) ?_ (by omega)
      repeat (with_reducible refine Own.setCell ?_ (by omega) _ _)
      exact Own.mono HO1.out (by simp)
    · refine Own.mono (base := w.heap.size + 2) ?_ (by omega)
      repeat (with_reducible refine Own.setCell ?_ (by omega) _ _)
      exact Own.mono HO2.out (by simp)
    · (repeat (first | (with_reducible exact Ext.refl _) | (with_reducible assumption) | (with_reducible apply Ext.alloc) | (with_reducible apply Ext.drew) | (with_reducible apply Ext.drewN) | ((with_reducible refine Ext.setCell ?_ ?_ _); rotate_left; (focus (first | (simp; done) | (simp; omega) | omega))) | (with_reducible refine Ext.trans ?_ (by assumption))))
end Go.Proofs.YtidahgoihgodnaaDoor
