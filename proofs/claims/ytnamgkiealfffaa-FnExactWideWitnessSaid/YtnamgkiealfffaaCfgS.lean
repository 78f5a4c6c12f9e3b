/- Contracts of the law's own functions on configurations. -/
import Derived.Test.YtnamgkiealfffaaClassS
import Derived.Test.YtnamgkiealfffaaFilterS
import Derived.Test.YtnamgkiealfffaaMem3
namespace Go.Proofs.Ytnamgkiealfffaa
open Go.RowKit
set_option maxRecDepth 20000
set_option maxHeartbeats 1000000
set_option linter.unusedSimpArgs false
set_option linter.unusedVariables false

abbrev cfgV (n : ByteArray) (cv fv : Value) (d : Int) : Value := .agg #[.string n, cv, fv, .int .i64 d]
abbrev OwnC (w : World) (base : Nat) (v : Value) (l : List Cls) : Prop := Own w base 33 8 Cls.cells v l
abbrev OwnF (w : World) (base : Nat) (v : Value) (l : List Flt) : Prop := Own w base 40 5 Flt.cells v l

/-- A configuration's four cells in block b. -/
def Box (w : World) (b : Nat) (n : ByteArray) (cv fv : Value) (d : Int) : Prop :=
  w.cell? ⟨b, 0, none⟩ = some (.string n) ∧ w.cell? ⟨b, 1, none⟩ = some cv ∧ w.cell? ⟨b, 2, none⟩ = some fv ∧ w.cell? ⟨b, 3, none⟩ = some (.int .i64 d) ∧ b < w.heap.size
theorem Box.ext {w w' : World} {b : Nat} {n : ByteArray} {cv fv : Value} {d : Int} (h : Box w b n cv fv d) (hx : Ext w w') : Box w' b n cv fv d := by
  obtain ⟨h0, h1, h2, h3, h4⟩ := h
  exact ⟨(Ext.cell hx h4).trans h0, (Ext.cell hx h4).trans h1, (Ext.cell hx h4).trans h2, (Ext.cell hx h4).trans h3, Ext.lts hx _ h4⟩
theorem Box.drew {w : World} {b : Nat} {n : ByteArray} {cv fv : Value} {d : Int} (h : Box w b n cv fv d) : Box w.drew b n cv fv d := h.ext (Ext.refl w).drew
theorem Box.new (w : World) (n : ByteArray) (cv fv : Value) (d : Int) (t : TypeId) : Box (w.alloc (.cells #[.string n, cv, fv, .int .i64 d] t)) w.heap.size n cv fv d := by
  refine ⟨?_, ?_, ?_, ?_, ?_⟩ <;> simp

theorem laws_eqConfig_any (n : ByteArray) (cv fv cv' fv' : Value) (d : Int) (cs : List Cls) (fs : List Flt) (w : World) (hc : RdC w cv cs) (hf : RdF w fv fs) (hc' : RdC w cv' cs) (hf' : RdF w fv' fs) (hcl : cs.length ≤ 2000000) (hfl : fs.length ≤ 2000000) :
    Calls Try.prog 7 #[cfgV n cv fv d, cfgV n cv' fv' d] w fun e w' => e = .returned (.bool true) ∧ Ext w w' := by
  have HC := Lib.hid hc
  have HF := Lib.hid hf
  have HC' := Lib.hid hc'
  have HF' := Lib.hid hf'
  clear hc hf hc' hf'
  have hq : (!(n.toList == n.toList)) = false := by simp
  have hd : (d != d) = false := by simp
  have E0 := ((Ext.refl w).alloc (.cells #[.string n, cv, fv, .int .i64 d] 25)).alloc (.cells #[.string n, cv', fv', .int .i64 d] 25)
  go_enter Try.func7, Try.ntmps7
  go_wp2_with fail
  refine (laws_eqClassS_any _ _ cs _ (HC.out.ext E0) (HC'.out.ext E0) hcl).mono ?_
  rintro e w1 ⟨rfl, F1⟩
  (have hca := Ext.cells F1; have hza := Ext.frozens F1; have hsa := Ext.lts F1; have hsa0 : w.heap.size < w1.heap.size := Ext.lts F1 _ (by simp <;> omega); have hca0 : ∀ o, w1.cell? ⟨w.heap.size, o, none⟩ = _ := fun o => Ext.cells F1 _ o (by simp <;> omega); have hza0 : ∀ o, w1.frozen? ⟨w.heap.size, o, none⟩ = _ := fun o => Ext.frozens F1 _ o (by simp <;> omega); have hsa1 : w.heap.size + 1 < w1.heap.size := Ext.lts F1 _ (by simp <;> omega); have hca1 : ∀ o, w1.cell? ⟨w.heap.size + 1, o, none⟩ = _ := fun o => Ext.cells F1 _ o (by simp <;> omega); have hza1 : ∀ o, w1.frozen? ⟨w.heap.size + 1, o, none⟩ = _ := fun o => Ext.frozens F1 _ o (by simp <;> omega); try clear hca hza)
  have E1 := E0.trans F1
  have HF1 := Lib.hid F1
  clear F1
  go_wp2_with fail
  refine (laws_eqFilterS_any _ _ fs _ (HF.out.ext E1) (HF'.out.ext E1) hfl).mono ?_
  rintro e w2 ⟨rfl, F2⟩
  have HF2 := HF1.out.trans F2
  clear hca0 hza0 hca1 hza1
  (have hcb := Ext.cells HF2; have hzb := Ext.frozens HF2; have hsb := Ext.lts HF2; have hsb0 : w.heap.size < w2.heap.size := Ext.lts HF2 _ (by simp <;> omega); have hcb0 : ∀ o, w2.cell? ⟨w.heap.size, o, none⟩ = _ := fun o => Ext.cells HF2 _ o (by simp <;> omega); have hzb0 : ∀ o, w2.frozen? ⟨w.heap.size, o, none⟩ = _ := fun o => Ext.frozens HF2 _ o (by simp <;> omega); have hsb1 : w.heap.size + 1 < w2.heap.size := Ext.lts HF2 _ (by simp <;> omega); have hcb1 : ∀ o, w2.cell? ⟨w.heap.size + 1, o, none⟩ = _ := fun o => Ext.cells HF2 _ o (by simp <;> omega); have hzb1 : ∀ o, w2.frozen? ⟨w.heap.size + 1, o, none⟩ = _ := fun o => Ext.frozens HF2 _ o (by simp <;> omega); try clear hcb hzb)
  clear HF2
  go_wp2
  go_ret
  exact ⟨rfl, E1.trans F2⟩

/-- The marked configuration: both rows are written, nothing else. -/
def MarkAns (cv fv : Value) (cl fl : Nat) (bc bf : Nat) (w : World) (e : Ending) (w' : World) : Prop :=
  e = .returned (.int .i64 (1 + 8 * cl + 5 * fl)) ∧ OwnC w' bc cv (mksOf mkClass 8 1 cl) ∧ OwnF w' bf fv (mksOf mkFilter 5 (1 + 8 * cl) fl) ∧ KB (fun k => cv.ownBlock = some k ∨ fv.ownBlock = some k) w w'
theorem laws_markConfig_any (n : ByteArray) (cv fv : Value) (d : Int) (cs : List Cls) (fs : List Flt) (bc bf : Nat) (w : World) (hc : OwnC w bc cv cs) (hf : OwnF w bf fv fs) (hcl : cs.length ≤ 2000000) (hfl : fs.length ≤ 2000000) :
    Calls Try.prog 8 #[cfgV n cv fv d, .int .i64 1] w (MarkAns cv fv cs.length fs.length bc bf w) := by
  have HC := Lib.hid hc
  have HF := Lib.hid hf
  have HA := Lib.hid (Own.apart hc hf (by decide))
  clear hc hf
  have E0 := (Ext.refl w).alloc (.cells #[.string n, cv, fv, .int .i64 d] 25)
  go_enter Try.func8, Try.ntmps8
  go_wp2_with fail
  refine (laws_markClassS_any _ cs 1 bc _ _ (Own.ext HC.out E0) (by omega) (by omega)).mono ?_
  rintro e w1 ⟨rfl, O1, G1⟩
  have hbx : ∀ o, w1.cell? ⟨w.heap.size, o, none⟩ = (w.alloc (.cells #[.string n, cv, fv, .int .i64 d] 25)).cell? ⟨w.heap.size, o, none⟩ := fun o => by
    have := G1.block w.heap.size (by simp) (fun e => by have := (Own.lt HC.out _ e.symm).2; omega)
    simp only [World.cell?, this]
  have HO1 := Lib.hid O1
  have K1 := Lib.hid ((KB.of_ext E0).trans (KB.of_grown G1))
  have HF1 := Lib.hid ((Own.ext HF.out E0).kept G1 (fun g hg => .inr (fun h => HA.out g hg h)))
  clear O1 G1
  go_wp2_with fail
  clear hbx
  refine (laws_markFilterS_any _ fs _ bf _ _ HF1.out (by omega) (by omega)).mono ?_
  rintro e w2 ⟨rfl, O2, G2⟩
  have HO2 := Lib.hid O2
  have K2 := Lib.hid (K1.out.trans (KB.of_grown G2))
  have HO1' := Lib.hid (HO1.out.kept G2 (fun g hg => .inr (fun h => HA.out g h hg)))
  clear O2 G2
  go_wp2
  go_ret
  refine ⟨rfl, HO1'.out, HO2.out, K2.out.mono ?_⟩
  rintro i ((h | h) | h)
  · exact h.elim
  · exact .inl h
  · exact .inr h

theorem laws_heldConfig_any (n : ByteArray) (cv fv : Value) (d : Int) (cl fl : Nat) (w : World) (hc : RdC w cv (mksOf mkClass 8 1 cl)) (hf : RdF w fv (mksOf mkFilter 5 (1 + 8 * cl) fl)) (hcl : cl ≤ 2000000) (hfl : fl ≤ 2000000) :
    Calls Try.prog 9 #[cfgV n cv fv d, .int .i64 1] w fun e w' => e = .returned (.int .i64 (1 + 8 * cl + 5 * fl)) ∧ Ext w w' := by
  have HC := Lib.hid hc
  have HF := Lib.hid hf
  clear hc hf
  have E0 := (Ext.refl w).alloc (.cells #[.string n, cv, fv, .int .i64 d] 25)
  go_enter Try.func9, Try.ntmps9
  go_wp2_with fail
  refine (laws_heldClassS_any _ 1 cl _ (HC.out.ext E0) (by omega) (by omega)).mono ?_
  rintro e w1 ⟨rfl, F1⟩
  have E1 := E0.trans F1
  (have hca := Ext.cells F1; have hza := Ext.frozens F1; have hsa := Ext.lts F1; have hsa0 : w.heap.size < w1.heap.size := Ext.lts F1 _ (by simp <;> omega); have hca0 : ∀ o, w1.cell? ⟨w.heap.size, o, none⟩ = _ := fun o => Ext.cells F1 _ o (by simp <;> omega); have hza0 : ∀ o, w1.frozen? ⟨w.heap.size, o, none⟩ = _ := fun o => Ext.frozens F1 _ o (by simp <;> omega); try clear hca hza)
  go_wp2_with fail
  refine (laws_heldFilterS_any _ _ fl _ (HF.out.ext E1) (by omega) (by omega)).mono ?_
  rintro e w2 ⟨rfl, F2⟩
  clear hca0 hza0
  go_wp2
  go_ret
  exact ⟨rfl, E1.trans F2⟩
end Go.Proofs.Ytnamgkiealfffaa
