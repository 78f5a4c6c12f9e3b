/- The reference's list of RaiseRates, with or without a tree: the plain side. -/
import Derived.Test.YtidahgoihgodnaaDoorRaiQ
namespace Go.Proofs.YtidahgoihgodnaaDoor
open Go.RowKit
set_option maxRecDepth 20000
set_option linter.unusedSimpArgs false
set_option linter.unusedVariables false

theorem ST.set {L : List Cls} {k : Nat} {x : Cls} (hx : L[k]? = some x) (y : Cls) (h1 : y.id = x.id) (h2 : y.parent = x.parent) : ST (L.set k y) L := fun i => by
  rw [List.getElem?_set]
  by_cases e : k = i
  · subst e
    have hk : k < L.length := by
      rcases Nat.lt_or_ge k L.length with h | h
      · exact h
      · rw [List.getElem?_eq_none h] at hx; cases hx
    rw [if_pos rfl, if_pos hk, hx]
    simp [h1, h2]
  · rw [if_neg e]
/-- The list on the way: the same tree; and, if it is a tree, the raised rates. -/
def Sp (cs : List Cls) (m k : Nat) (L : List Cls) : Prop := ST L cs ∧ (TreeB cs = true → SpeS cs m k L)
theorem sp_start (cs : List Cls) : Sp cs 0 0 cs := ⟨ST.refl cs, fun _ => speS_start cs⟩
theorem sp_next {cs L : List Cls} {m : Nat} (h : Sp cs m cs.length L) : Sp cs (m + 1) 0 L := ⟨h.1, fun t => speS_next (h.2 t)⟩
theorem sp_skip {cs L : List Cls} {m k : Nat} (h : Sp cs m k L) (hd : TreeB cs = true → depU cs k ≠ cs.length - m) : Sp cs m (k + 1) L := ⟨h.1, fun t => speS_skip (h.2 t) (hd t)⟩
theorem sp_at {cs L : List Cls} {m k : Nat} (hc : cntB cs = true) (h : Sp cs m k L) (hk : k < cs.length) (hd : TreeB cs = true → depU cs k = cs.length - m) :
    ∃ x : Cls, L[k]? = some x ∧ ∀ s : Int, (SumOk L k → s = rateAt L k - kidR L k) → (¬ s < 0 → Sp cs m (k + 1) L) ∧ (s < 0 → ∀ s' : Int, (SumOk L k → s' = rateAt L k - kidR L k) → Sp cs m (k + 1) (L.set k { x with rate := wrap64 (x.rate - s') })) := by
  have hkl : k < L.length := by rw [h.1.len]; exact hk
  refine ⟨L[k], List.getElem?_eq_getElem hkl, fun s hs => ⟨fun h0 => ⟨h.1, fun t => ?_⟩, fun h0 s' hs' => ⟨(ST.set (List.getElem?_eq_getElem hkl) { L[k] with rate := wrap64 (L[k].rate - s') } rfl rfl).trans h.1, fun t => ?_⟩⟩⟩
  · obtain ⟨hso, x, hx, hr, h1, h2⟩ := speS_at t hc (h.2 t) hk (hd t)
    have e := hs hso
    exact h1 (by omega)
  · obtain ⟨hso, x, hx, hr, h1, h2⟩ := speS_at t hc (h.2 t) hk (hd t)
    have e := hs hso
    have e' := hs' hso
    rw [List.getElem?_eq_getElem hkl] at hx
    cases hx
    have hb := hso.1 _ (Nat.le_refl _)
    have hb' : 0 ≤ kidR L k ∧ kidR L k ≤ 4586471424000000000 := hb
    have e2 : wrap64 (L[k].rate - s') = kidR L k := by
      rw [show L[k].rate - s' = kidR L k by omega]; unfold wrap64
      omega
    rw [e2]
    exact h2 (by omega)
def Sc (cs : List Cls) (k : Nat) (L : List Cls) : Prop := ST L cs ∧ (TreeB cs = true → SpeC cs k L)
theorem sc_start {cs L : List Cls} (h : Sp cs cs.length 0 L) : Sc cs 0 L := ⟨h.1, fun t => speC_start (h.2 t)⟩
theorem sc_at {cs L : List Cls} {k : Nat} (h : Sc cs k L) (hk : k < cs.length) : ∃ x : Cls, L[k]? = some x ∧ Sc cs (k + 1) (L.set k { x with ceil := max x.ceil x.rate }) := by
  have hkl : k < L.length := by rw [h.1.len]; exact hk
  refine ⟨L[k], List.getElem?_eq_getElem hkl, (ST.set (List.getElem?_eq_getElem hkl) { L[k] with ceil := max L[k].ceil L[k].rate } rfl rfl).trans h.1, fun t => ?_⟩
  obtain ⟨x, hx, h1⟩ := speC_at (h.2 t) hk
  rw [List.getElem?_eq_getElem hkl] at hx
  cases hx
  exact h1
theorem sc_end {n : ByteArray} {cs : List Cls} {fs : List Flt} {d : Int} (hc : cntB cs = true) {L : List Cls} (h : Sc cs cs.length L) : rrR n cs fs d = ifR n L fs d := by
  cases ht : TreeB cs
  · rw [rrR_no (.inl ht), h.1.no (.inl ht)]
  · by_cases h16 : fs.length ≤ 16
    · exact rrR_speC ht h16 hc (h.2 ht)
    · rw [rrR_no (.inr (.inl h16)), h.1.no (.inr (.inr h16))]
theorem spec_cfSpareB_any (n : ByteArray) (cv fv : Value) (d : Int) (i : Nat) (cs : List Cls) (w : World) (hc : RdC w cv cs) (hi : i < cs.length) (hcl : cs.length ≤ 1048576) :
    Calls Tryd.prog 42 #[cfgV n cv fv d, .int .i64 (i : Int)] w fun e w' => ∃ s : Int, e = .returned (.int .i64 s) ∧ (SumOk cs i → s = rateAt cs i - kidR cs i) ∧ Ext w w' := by
  by_cases h : SumOk cs i
  · refine (spec_cfSpareX_any n cv fv d i cs w hc hi hcl h).mono ?_
    rintro e w' ⟨rfl, hx⟩
    exact ⟨_, rfl, fun _ => rfl, hx⟩
  · refine (spec_cfSpareE_any n cv fv d i cs w hc hi hcl).mono ?_
    rintro e w' ⟨s, rfl, hx⟩
    exact ⟨_, rfl, fun h' => absurd h' h, hx⟩
theorem spec_l1Most_any (a b : Int) (w : World) :
    Calls Tryd.prog 43 #[.int .i64 a, .int .i64 b] w fun e w' => e = .returned (.int .i64 (max a b)) ∧ Ext w w' := by
  by_cases h : b < a
  · have e : max a b = a := by omega
    rw [e]
    go_enter Tryd.func43, Tryd.ntmps43
    go_wp2
    go_ret
    exact ⟨rfl, by (repeat (first | (with_reducible exact Ext.refl _) | (with_reducible assumption) | (with_reducible apply Ext.alloc) | (with_reducible apply Ext.drew) | (with_reducible apply Ext.drewN) | ((with_reducible refine Ext.setCell ?_ ?_ _); rotate_left; (focus (first | (simp; done) | (simp; omega) | omega))) | (with_reducible refine Ext.trans ?_ (by assumption))))⟩
  · have e : max a b = b := by omega
    rw [e]
    go_enter Tryd.func43, Tryd.ntmps43
    go_wp2
    go_ret
    exact ⟨rfl, by (repeat (first | (with_reducible exact Ext.refl _) | (with_reducible assumption) | (with_reducible apply Ext.alloc) | (with_reducible apply Ext.drew) | (with_reducible apply Ext.drewN) | ((with_reducible refine Ext.setCell ?_ ?_ _); rotate_left; (focus (first | (simp; done) | (simp; omega) | omega))) | (with_reducible refine Ext.trans ?_ (by assumption))))⟩
end Go.Proofs.YtidahgoihgodnaaDoor
