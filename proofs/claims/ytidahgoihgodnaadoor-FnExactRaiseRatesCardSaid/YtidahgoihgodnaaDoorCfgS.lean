/- Contracts of the law's own functions on configurations. -/
import Derived.Test.YtidahgoihgodnaaDoorClassS
import Derived.Test.YtidahgoihgodnaaDoorFilterS
import Derived.Test.YtidahgoihgodnaaDoorMem3
namespace Go.Proofs.YtidahgoihgodnaaDoor
open Go.RowKit
set_option maxRecDepth 20000
set_option maxHeartbeats 1000000
set_option linter.unusedSimpArgs false
set_option linter.unusedVariables false

abbrev cfgV (n : ByteArray) (cv fv : Value) (d : Int) : Value := .agg #[.string n, cv, fv, .int .i64 d]
abbrev OwnC (w : World) (base : Nat) (v : Value) (l : List Cls) : Prop := Own w base 47 8 Cls.cells v l
abbrev OwnF (w : World) (base : Nat) (v : Value) (l : List Flt) : Prop := Own w base 66 5 Flt.cells v l

/-- A configuration's four cells in block b. -/
def Box (w : World) (b : Nat) (n : ByteArray) (cv fv : Value) (d : Int) : Prop :=
  w.cell? ⟨b, 0, none⟩ = some (.string n) ∧ w.cell? ⟨b, 1, none⟩ = some cv ∧ w.cell? ⟨b, 2, none⟩ = some fv ∧ w.cell? ⟨b, 3, none⟩ = some (.int .i64 d) ∧ b < w.heap.size
theorem Box.ext {w w' : World} {b : Nat} {n : ByteArray} {cv fv : Value} {d : Int} (h : Box w b n cv fv d) (hx : Ext w w') : Box w' b n cv fv d := by
  obtain ⟨h0, h1, h2, h3, h4⟩ := h
  exact ⟨(Ext.cell hx h4).trans h0, (Ext.cell hx h4).trans h1, (Ext.cell hx h4).trans h2, (Ext.cell hx h4).trans h3, Ext.lts hx _ h4⟩
theorem Box.drew {w : World} {b : Nat} {n : ByteArray} {cv fv : Value} {d : Int} (h : Box w b n cv fv d) : Box w.drew b n cv fv d := h.ext (Ext.refl w).drew
theorem Box.new (w : World) (n : ByteArray) (cv fv : Value) (d : Int) (t : TypeId) : Box (w.alloc (.cells #[.string n, cv, fv, .int .i64 d] t)) w.heap.size n cv fv d := by
  refine ⟨?_, ?_, ?_, ?_, ?_⟩ <;> simp

theorem laws_szClassS_any (v : Value) (l : List Cls) (r : Int) (w : World) (h : RdC w v l) (hl : l.length ≤ maxLen) (h0 : 0 ≤ r) (h1 : r ≤ 1048576) :
    Calls Tryd.prog 17 #[v, .int .i64 r] w fun e w' => e = .returned (.int .i64 (if r < l.length then -1 else r - l.length)) ∧ w = w' := by
  obtain ⟨A, c, rfl, hc, _⟩ := h
  unfold maxLen at hl
  by_cases hr : r < l.length
  · rw [if_pos hr]
    go_enter Tryd.func17, Tryd.ntmps17
    go_wp2
    go_ret
    exact ⟨rfl, rfl⟩
  · rw [if_neg hr]
    go_enter Tryd.func17, Tryd.ntmps17
    go_wp2
    go_ret
    exact ⟨rfl, rfl⟩
theorem laws_szFilterS_any (v : Value) (l : List Flt) (r : Int) (w : World) (h : RdF w v l) (hl : l.length ≤ maxLen) (h0 : 0 ≤ r) (h1 : r ≤ 1048576) :
    Calls Tryd.prog 18 #[v, .int .i64 r] w fun e w' => e = .returned (.int .i64 (if r < l.length then -1 else r - l.length)) ∧ w = w' := by
  obtain ⟨A, c, rfl, hc, _⟩ := h
  unfold maxLen at hl
  by_cases hr : r < l.length
  · rw [if_pos hr]
    go_enter Tryd.func18, Tryd.ntmps18
    go_wp2
    go_ret
    exact ⟨rfl, rfl⟩
  · rw [if_neg hr]
    go_enter Tryd.func18, Tryd.ntmps18
    go_wp2
    go_ret
    exact ⟨rfl, rfl⟩

/-- Whether the answer of szConfig is that the configuration is not too large. -/
def SzAns (n cl fl : Nat) (w : World) (e : Ending) (w' : World) : Prop := (∃ r : Int, e = .returned (.int .i64 r) ∧ (0 ≤ r → n + cl + fl ≤ 1048576)) ∧ Ext w w'
theorem laws_szConfig_any (n : ByteArray) (cv fv : Value) (d : Int) (cs : List Cls) (fs : List Flt) (w : World) (hc : RdC w cv cs) (hf : RdF w fv fs) (hn : n.size ≤ maxLen) (hcl : cs.length ≤ maxLen) (hfl : fs.length ≤ maxLen) :
    Calls Tryd.prog 6 #[cfgV n cv fv d, .int .i64 1048576] w (SzAns n.size cs.length fs.length w) := by
  have HC := Lib.hid hc
  have HF := Lib.hid hf
  clear hc hf
  have hn' := hn
  unfold maxLen at hn'
  have E0 := (Ext.refl w).alloc (.cells #[.string n, cv, fv, .int .i64 d] 25)
  by_cases h1 : (1048576 : Int) < n.size
  · go_enter Tryd.func6, Tryd.ntmps6
    go_wp2
    go_ret
    exact ⟨⟨_, rfl, fun h => absurd h (by omega)⟩, E0⟩
  · go_enter Tryd.func6, Tryd.ntmps6
    go_wp2_with fail
    refine (laws_szClassS_any _ cs _ _ (HC.out.ext E0) hcl (by omega) (by omega)).mono ?_
    rintro e w1 ⟨rfl, rfl⟩
    by_cases h2 : (1048576 : Int) - n.size < cs.length
    · rw [if_pos h2]
      go_wp2
      go_ret
      exact ⟨⟨_, rfl, fun h => absurd h (by omega)⟩, E0⟩
    · rw [if_neg h2]
      go_wp2_with fail
      refine (laws_szFilterS_any _ fs _ _ (HF.out.ext E0) hfl (by omega) (by omega)).mono ?_
      rintro e w1 ⟨rfl, rfl⟩
      by_cases h3 : (1048576 : Int) - n.size - cs.length < fs.length
      · rw [if_pos h3]
        go_wp2
        go_ret
        exact ⟨⟨_, rfl, fun h => absurd h (by omega)⟩, E0⟩
      · rw [if_neg h3]
        go_wp2
        go_ret
        exact ⟨⟨_, rfl, fun h => by omega⟩, E0⟩

theorem laws_toConfig_any (n : ByteArray) (cv fv : Value) (d : Int) (cs : List Cls) (fs : List Flt) (w : World) (hc : RdC w cv cs) (hf : RdF w fv fs) (hcl : cs.length ≤ 1048576) (hfl : fs.length ≤ 1048576) :
    Calls Tryd.prog 8 #[cfgV n cv fv d] w fun e w' => ∃ u1 u2, e = .returned (cfgV n u1 u2 d) ∧ OwnC w' w.heap.size u1 cs ∧ OwnF w' w.heap.size u2 fs ∧ Ext w w' := by
  have HC := Lib.hid hc
  have HF := Lib.hid hf
  clear hc hf
  go_enter Tryd.func8, Tryd.ntmps8
  go_wp2_with fail
  refine (laws_toClassS_any _ cs _ (HC.out.ext (by (repeat (first | (with_reducible exact Ext.refl _) | (with_reducible assumption) | (with_reducible apply Ext.alloc) | (with_reducible apply Ext.drew) | (with_reducible apply Ext.drewN) | ((with_reducible refine Ext.setCell ?_ ?_ _); rotate_left; (focus (first | (simp; done) | (simp; omega) | omega))) | (with_reducible refine Ext.trans ?_ (by assumption)))))) hcl).mono ?_
  rintro e w1 ⟨u1, rfl, O1, F1⟩
  (have hca := Ext.cells F1; have hza := Ext.frozens F1; have hsa := Ext.lts F1; have hsa0 : w.heap.size < w1.heap.size := Ext.lts F1 _ (by simp <;> omega); have hca0 : ∀ o, w1.cell? ⟨w.heap.size, o, none⟩ = _ := fun o => Ext.cells F1 _ o (by simp <;> omega); have hza0 : ∀ o, w1.frozen? ⟨w.heap.size, o, none⟩ = _ := fun o => Ext.frozens F1 _ o (by simp <;> omega); have hsa1 : w.heap.size + 1 < w1.heap.size := Ext.lts F1 _ (by simp <;> omega); have hca1 : ∀ o, w1.cell? ⟨w.heap.size + 1, o, none⟩ = _ := fun o => Ext.cells F1 _ o (by simp <;> omega); have hza1 : ∀ o, w1.frozen? ⟨w.heap.size + 1, o, none⟩ = _ := fun o => Ext.frozens F1 _ o (by simp <;> omega); have hsa2 : w.heap.size + 1 + 1 < w1.heap.size := Ext.lts F1 _ (by simp <;> omega); have hca2 : ∀ o, w1.cell? ⟨w.heap.size + 1 + 1, o, none⟩ = _ := fun o => Ext.cells F1 _ o (by simp <;> omega); have hza2 : ∀ o, w1.frozen? ⟨w.heap.size + 1 + 1, o, none⟩ = _ := fun o => Ext.frozens F1 _ o (by simp <;> omega); try clear hca hza)
  obtain ⟨A1, k1, rfl, _, _⟩ := Own.rd O1 Cls.len
  have HO1 := Lib.hid (show OwnC w1 (w.heap.size + 3) _ cs from Own.mono O1 (by simp))
  have E1 := Ext.trans (show Ext w _ by (repeat (first | (with_reducible exact Ext.refl _) | (with_reducible assumption) | (with_reducible apply Ext.alloc) | (with_reducible apply Ext.drew) | (with_reducible apply Ext.drewN) | ((with_reducible refine Ext.setCell ?_ ?_ _); rotate_left; (focus (first | (simp; done) | (simp; omega) | omega))) | (with_reducible refine Ext.trans ?_ (by assumption))))) F1
  clear O1 F1
  go_wp2_with fail
  refine (laws_toFilterS_any _ fs _ (HF.out.ext (by (repeat (first | (with_reducible exact Ext.refl _) | (with_reducible assumption) | (with_reducible apply Ext.alloc) | (with_reducible apply Ext.drew) | (with_reducible apply Ext.drewN) | ((with_reducible refine Ext.setCell ?_ ?_ _); rotate_left; (focus (first | (simp; done) | (simp; omega) | omega))) | (with_reducible refine Ext.trans ?_ (by assumption)))))) hfl).mono ?_
  rintro e w2 ⟨u2, rfl, O2, F2⟩
  (have hcb := Ext.cells F2; have hzb := Ext.frozens F2; have hsb := Ext.lts F2; have hsb0 : w.heap.size < w2.heap.size := Ext.lts F2 _ (by simp <;> omega); have hcb0 : ∀ o, w2.cell? ⟨w.heap.size, o, none⟩ = _ := fun o => Ext.cells F2 _ o (by simp <;> omega); have hzb0 : ∀ o, w2.frozen? ⟨w.heap.size, o, none⟩ = _ := fun o => Ext.frozens F2 _ o (by simp <;> omega); have hsb1 : w.heap.size + 1 < w2.heap.size := Ext.lts F2 _ (by simp <;> omega); have hcb1 : ∀ o, w2.cell? ⟨w.heap.size + 1, o, none⟩ = _ := fun o => Ext.cells F2 _ o (by simp <;> omega); have hzb1 : ∀ o, w2.frozen? ⟨w.heap.size + 1, o, none⟩ = _ := fun o => Ext.frozens F2 _ o (by simp <;> omega); have hsb2 : w.heap.size + 1 + 1 < w2.heap.size := Ext.lts F2 _ (by simp <;> omega); have hcb2 : ∀ o, w2.cell? ⟨w.heap.size + 1 + 1, o, none⟩ = _ := fun o => Ext.cells F2 _ o (by simp <;> omega); have hzb2 : ∀ o, w2.frozen? ⟨w.heap.size + 1 + 1, o, none⟩ = _ := fun o => Ext.frozens F2 _ o (by simp <;> omega); try clear hcb hzb)
  obtain ⟨A2, k2, rfl, _, _⟩ := Own.rd O2 Flt.len
  have HO2 := Lib.hid (show OwnF w2 (w.heap.size + 3) _ fs from Own.mono O2 (by simp; omega))
  have HO1' := Lib.hid (Own.ext (HO1.out.setCell (g := w.heap.size + 1 + 1) (by omega) 1 (.slice A1 cs.length k1)) F2)
  have E2 := Ext.trans (show Ext w (w1.setCell ⟨w.heap.size + 1 + 1, 1, none⟩ (.slice A1 cs.length k1)) by (repeat (first | (with_reducible exact Ext.refl _) | (with_reducible assumption) | (with_reducible apply Ext.alloc) | (with_reducible apply Ext.drew) | (with_reducible apply Ext.drewN) | ((with_reducible refine Ext.setCell ?_ ?_ _); rotate_left; (focus (first | (simp; done) | (simp; omega) | omega))) | (with_reducible refine Ext.trans ?_ (by assumption))))) F2
  clear O2 F2 HO1
  go_wp2
  refine bodyPost_ret (v := cfgV n (.slice A1 cs.length k1) (.slice A2 fs.length k2) d) (by simp [results, Tryd.results8, go_sem, *]) rfl ⟨_, _, rfl, ?_, ?_, ?_⟩
  · refine Own.mono (base := w.heap.size + 3) ?_ (by omega)
    repeat (first | (with_reducible exact HO1'.out) | (with_reducible refine Own.setCell ?_ (by omega) _ _))
  · refine Own.mono (base := w.heap.size + 3) ?_ (by omega)
    repeat (first | (with_reducible exact HO2.out) | (with_reducible refine Own.setCell ?_ (by omega) _ _))
  · (repeat (first | (with_reducible exact Ext.refl _) | (with_reducible assumption) | (with_reducible apply Ext.alloc) | (with_reducible apply Ext.drew) | (with_reducible apply Ext.drewN) | ((with_reducible refine Ext.setCell ?_ ?_ _); rotate_left; (focus (first | (simp; done) | (simp; omega) | omega))) | (with_reducible refine Ext.trans ?_ (by assumption))))

theorem laws_eqConfig_any (n : ByteArray) (cv fv cv' fv' : Value) (d : Int) (cs : List Cls) (fs : List Flt) (w : World) (hc : RdC w cv cs) (hf : RdF w fv fs) (hc' : RdC w cv' cs) (hf' : RdF w fv' fs) (hcl : cs.length ≤ 2000000) (hfl : fs.length ≤ 2000000) :
    Calls Tryd.prog 10 #[cfgV n cv fv d, cfgV n cv' fv' d] w fun e w' => e = .returned (.bool true) ∧ Ext w w' := by
  have HC := Lib.hid hc
  have HF := Lib.hid hf
  have HC' := Lib.hid hc'
  have HF' := Lib.hid hf'
  clear hc hf hc' hf'
  have hq : (!(n.toList == n.toList)) = false := by simp
  have hd : (d != d) = false := by simp
  have E0 := ((Ext.refl w).alloc (.cells #[.string n, cv, fv, .int .i64 d] 30)).alloc (.cells #[.string n, cv', fv', .int .i64 d] 30)
  go_enter Tryd.func10, Tryd.ntmps10
  go_wp2_with fail
  refine (laws_eqClassS_any _ _ cs _ (HC.out.ext E0) (HC'.out.ext E0) hcl).mono ?_
  rintro e w1 ⟨rfl, F1⟩
  (have hca := Ext.cells F1; have hza := Ext.frozens F1; have hsa := Ext.lts F1; have hsa0 : w.heap.size < w1.heap.size := Ext.lts F1 _ (by simp <;> omega); have hca0 : ∀ o, w1.cell? ⟨w.heap.size, o, none⟩ = _ := fun o => Ext.cells F1 _ o (by simp <;> omega); have hza0 : ∀ o, w1.frozen? ⟨w.heap.size, o, none⟩ = _ := fun o => Ext.frozens F1 _ o (by simp <;> omega); have hsa1 : w.heap.size + 1 < w1.heap.size := Ext.lts F1 _ (by simp <;> omega); have hca1 : ∀ o, w1.cell? ⟨w.heap.size + 1, o, none⟩ = _ := fun o => Ext.cells F1 _ o (by simp <;> omega); have hza1 : ∀ o, w1.frozen? ⟨w.heap.size + 1, o, none⟩ = _ := fun o => Ext.frozens F1 _ o (by simp <;> omega); try clear hca hza)
  have E1 := E0.trans F1
  have HF1 := Lib.hid F1
  clear F1
  go_wp2_with fail
  refine (laws_eqFilterS_any _ _ fs _ (HF.out.ext E1) (HF'.out.ext E1) hfl).mono ?_
  rintro e w2 ⟨rfl, F2⟩
  have HF2 := HF1.out.trans F2
  clear hca0 hza0 hca1 hza1
  (have hcb := Ext.cells HF2; have hzb := Ext.frozens HF2; have hsb := Ext.lts HF2; have hsb0 : w.heap.size < w2.heap.size := Ext.lts HF2 _ (by simp <;> omega); have hcb0 : ∀ o, w2.cell? ⟨w.heap.size, o, none⟩ = _ := fun o => Ext.cells HF2 _ o (by simp <;> omega); have hzb0 : ∀ o, w2.frozen? ⟨w.heap.size, o, none⟩ = _ := fun o => Ext.frozens HF2 _ o (by simp <;> omega); have hsb1 : w.heap.size + 1 < w2.heap.size := Ext.lts HF2 _ (by simp <;> omega); have hcb1 : ∀ o, w2.cell? ⟨w.heap.size + 1, o, none⟩ = _ := fun o => Ext.cells HF2 _ o (by simp <;> omega); have hzb1 : ∀ o, w2.frozen? ⟨w.heap.size + 1, o, none⟩ = _ := fun o => Ext.frozens HF2 _ o (by simp <;> omega); try clear hcb hzb)
  clear HF2
  go_wp2
  go_ret
  exact ⟨rfl, E1.trans F2⟩

/-- The marked configuration: both rows are written, nothing else. -/
def MarkAns (cv fv : Value) (cl fl : Nat) (bc bf : Nat) (w : World) (e : Ending) (w' : World) : Prop :=
  e = .returned (.int .i64 (1 + 8 * cl + 5 * fl)) ∧ OwnC w' bc cv (mksOf mkClass 8 1 cl) ∧ OwnF w' bf fv (mksOf mkFilter 5 (1 + 8 * cl) fl) ∧ KB (fun k => cv.ownBlock = some k ∨ fv.ownBlock = some k) w w'
theorem laws_markConfig_any (n : ByteArray) (cv fv : Value) (d : Int) (cs : List Cls) (fs : List Flt) (bc bf : Nat) (w : World) (hc : OwnC w bc cv cs) (hf : OwnF w bf fv fs) (hcl : cs.length ≤ 2000000) (hfl : fs.length ≤ 2000000) :
    Calls Tryd.prog 11 #[cfgV n cv fv d, .int .i64 1] w (MarkAns cv fv cs.length fs.length bc bf w) := by
  have HC := Lib.hid hc
  have HF := Lib.hid hf
  have HA := Lib.hid (Own.apart hc hf (by decide))
  clear hc hf
  have E0 := (Ext.refl w).alloc (.cells #[.string n, cv, fv, .int .i64 d] 30)
  go_enter Tryd.func11, Tryd.ntmps11
  go_wp2_with fail
  refine (laws_markClassS_any _ cs 1 bc _ _ (Own.ext HC.out E0) (by omega) (by omega)).mono ?_
  rintro e w1 ⟨rfl, O1, G1⟩
  have hbx : ∀ o, w1.cell? ⟨w.heap.size, o, none⟩ = (w.alloc (.cells #[.string n, cv, fv, .int .i64 d] 30)).cell? ⟨w.heap.size, o, none⟩ := fun o => by
    have := G1.block w.heap.size (by simp) (fun e => by have := (Own.lt HC.out _ e.symm).2; omega)
    simp only [World.cell?, this]
  have HO1 := Lib.hid O1
  have K1 := Lib.hid ((KB.of_ext E0).trans (KB.of_grown G1))
  have HF1 := Lib.hid ((Own.ext HF.out E0).kept G1 (fun g hg => .inr (fun h => HA.out g hg h)))
  clear O1 G1
  go_wp2_with fail
  clear hbx
  refine (laws_markFilterS_any _ fs _ bf _ _ HF1.out (by omega) (by omega)).mono ?_
  rintro e w2 ⟨rfl, O2, G2⟩
  have HO2 := Lib.hid O2
  have K2 := Lib.hid (K1.out.trans (KB.of_grown G2))
  have HO1' := Lib.hid (HO1.out.kept G2 (fun g hg => .inr (fun h => HA.out g h hg)))
  clear O2 G2
  go_wp2
  go_ret
  refine ⟨rfl, HO1'.out, HO2.out, K2.out.mono ?_⟩
  rintro i ((h | h) | h)
  · exact h.elim
  · exact .inl h
  · exact .inr h

theorem laws_heldConfig_any (n : ByteArray) (cv fv : Value) (d : Int) (cl fl : Nat) (w : World) (hc : RdC w cv (mksOf mkClass 8 1 cl)) (hf : RdF w fv (mksOf mkFilter 5 (1 + 8 * cl) fl)) (hcl : cl ≤ 2000000) (hfl : fl ≤ 2000000) :
    Calls Tryd.prog 12 #[cfgV n cv fv d, .int .i64 1] w fun e w' => e = .returned (.int .i64 (1 + 8 * cl + 5 * fl)) ∧ Ext w w' := by
  have HC := Lib.hid hc
  have HF := Lib.hid hf
  clear hc hf
  have E0 := (Ext.refl w).alloc (.cells #[.string n, cv, fv, .int .i64 d] 30)
  go_enter Tryd.func12, Tryd.ntmps12
  go_wp2_with fail
  refine (laws_heldClassS_any _ 1 cl _ (HC.out.ext E0) (by omega) (by omega)).mono ?_
  rintro e w1 ⟨rfl, F1⟩
  have E1 := E0.trans F1
  (have hca := Ext.cells F1; have hza := Ext.frozens F1; have hsa := Ext.lts F1; have hsa0 : w.heap.size < w1.heap.size := Ext.lts F1 _ (by simp <;> omega); have hca0 : ∀ o, w1.cell? ⟨w.heap.size, o, none⟩ = _ := fun o => Ext.cells F1 _ o (by simp <;> omega); have hza0 : ∀ o, w1.frozen? ⟨w.heap.size, o, none⟩ = _ := fun o => Ext.frozens F1 _ o (by simp <;> omega); try clear hca hza)
  go_wp2_with fail
  refine (laws_heldFilterS_any _ _ fl _ (HF.out.ext E1) (by omega) (by omega)).mono ?_
  rintro e w2 ⟨rfl, F2⟩
  clear hca0 hza0
  go_wp2
  go_ret
  exact ⟨rfl, E1.trans F2⟩
end Go.Proofs.YtidahgoihgodnaaDoor
