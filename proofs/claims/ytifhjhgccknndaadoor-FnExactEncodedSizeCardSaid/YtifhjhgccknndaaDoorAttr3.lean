/- Contracts: attributes by index, their ends and parents. -/
import Derived.Test.YtifhjhgccknndaaDoorAttr2
namespace Go.Proofs.YtifhjhgccknndaaDoor
open Go.RowKit
set_option maxHeartbeats 1000000
set_option linter.unusedSimpArgs false
set_option linter.unusedVariables false

def hasB (l : List Att) (i : Int) : Bool := goodB l && inR i 0 ((l.length : Int) - 1)
theorem hasB_parts {l : List Att} {i : Int} (h : hasB l i = true) : goodB l = true ∧ 0 ≤ i ∧ i < l.length := by
  simp only [hasB, Bool.and_eq_true, inR_iff] at h
  exact ⟨h.1, by omega, by omega⟩
/-- How many attributes from the front on are deeper than d. -/
def spanD (d : Int) : List Att → Nat
  | [] => 0
  | x :: r => if d < x.depth then spanD d r + 1 else 0
def endN (l : List Att) (i : Nat) : Nat := match l[i]? with
  | some x => i + 1 + spanD x.depth (l.drop (i + 1))
  | none => i + 1
theorem spanD_le (d : Int) : ∀ r : List Att, spanD d r ≤ r.length
  | [] => by simp [spanD]
  | x :: r => by
    have := spanD_le d r
    unfold spanD
    split
    · simp; omega
    · simp
theorem spanD_step (d : Int) (l : List Att) (k : Nat) (h : k < l.length) : spanD d (l.drop k) = if d < l[k].depth then spanD d (l.drop (k + 1)) + 1 else 0 := by
  rw [List.drop_eq_getElem_cons h]
  rfl
theorem spanD_end (d : Int) (l : List Att) (k : Nat) (h : l.length ≤ k) : spanD d (l.drop k) = 0 := by
  rw [List.drop_eq_nil_of_le h]
  rfl
theorem endN_lt (l : List Att) (i : Nat) (h : i < l.length) : i < endN l i ∧ endN l i ≤ l.length := by
  have := spanD_le (l[i].depth) (l.drop (i + 1))
  simp only [endN, List.getElem?_eq_getElem h]
  simp at this
  omega
theorem spec_tvEnd_any (v : Value) (l : List Att) (i : Nat) (w : World) (h : RdA w v l) (hl : l.length ≤ 1048576) (hi : i < l.length) :
    Calls Tryd.prog 64 #[v, .int .i64 (i : Int)] w fun e w' => e = .returned (.int .i64 (endN l i)) ∧ Ext w w' := by
  obtain ⟨A, c, rfl, hc, hrd⟩ := h
  have HR := Lib.hid hrd
  obtain ⟨b, o, rfl, hb, hcell⟩ := hrd i l[i] (List.getElem?_eq_getElem hi)
  have HE := Lib.hid (show endN l i = i + 1 + spanD l[i].depth (l.drop (i + 1)) by simp [endN, hi])
  generalize l[i] = x at hcell HE
  have HC := Lib.hid hcell
  clear hrd hcell
  go_enter Tryd.func64, Tryd.ntmps64
  go_wp2
  go_loopw [5] (fun t wr => ∃ k : Nat, i + 1 ≤ k ∧ k ≤ l.length ∧ t = .int .i64 k ∧ Hid (endN l i = k + spanD x.depth (l.drop k)) ∧ Ext w wr) (fun t _ => l.length - (intOf t).toNat)
  case atStart => exact ⟨i + 1, Nat.le_refl _, by omega, by go_num, HE.out, Ext.refl _⟩
  case round =>
    obtain ⟨k, hk0, hk, rfl, hg, hx⟩ := hrel
    have z0 : b < wr.heap.size := Ext.lts hx _ hb
    have c0 : wr.cell? ⟨b, o + i * 4, none⟩ = some (.int .i64 x.depth) := by rw [Ext.cell hx hb]; exact HC.out 0 _ rfl
    by_cases hlt : k < l.length
    · obtain ⟨b', o', hA, hb', hcell'⟩ := HR.out k l[k] (List.getElem?_eq_getElem hlt)
      simp only [Option.some.injEq, Addr.mk.injEq, and_true] at hA
      obtain ⟨rfl, rfl⟩ := hA
      have hst := spanD_step x.depth l k hlt
      generalize l[k] = y at hcell' hst
      have c1 : wr.cell? ⟨b, o + k * 4, none⟩ = some (.int .i64 y.depth) := by rw [Ext.cell hx hb']; exact hcell' 0 _ rfl
      have HST := Lib.hid hst
      clear hcell' hst
      by_cases hd : x.depth < y.depth
      · (go_wp2_with fail; refine wp_region_ext (by kernel_rfl) (by kernel_rfl) ?_; (repeat (first | go_big_quiet_step (fail) | quiet_step (fail))); refine wpQuiet_nil ?_; intro wq hbq; (try (replace hbq := Ext.trans (by assumption) hbq)); have hcq := Ext.cells hbq; have hzq := Ext.frozens hbq; have hsq := Ext.lts hbq)
        go_wp2
        go_roundw
        case rel => exact ⟨k + 1, by omega, by omega, by go_num, by have := hg.out; rw [HST.out, if_pos hd] at this; show _ = _; omega, by assumption⟩
        case measure => simp [intOf]; omega
      · (go_wp2_with fail; refine wp_region_ext (by kernel_rfl) (by kernel_rfl) ?_; (repeat (first | go_big_quiet_step (fail) | quiet_step (fail))); refine wpQuiet_nil ?_; intro wq hbq; (try (replace hbq := Ext.trans (by assumption) hbq)); have hcq := Ext.cells hbq; have hzq := Ext.frozens hbq; have hsq := Ext.lts hbq)
        go_wp2
        go_ret
        exact ⟨by have := hg.out; rw [HST.out, if_neg (by omega)] at this; rw [this]; rfl, by assumption⟩
    · have hf : decide (k < l.length) = false := by simp; omega
      (go_wp2_with fail; refine wp_region_ext (by kernel_rfl) (by kernel_rfl) ?_; (repeat (first | go_big_quiet_step (fail) | quiet_step (fail))); refine wpQuiet_nil ?_; intro wq hbq; (try (replace hbq := Ext.trans (by assumption) hbq)); have hcq := Ext.cells hbq; have hzq := Ext.frozens hbq; have hsq := Ext.lts hbq)
      go_wp2
      go_ret
      exact ⟨by have := hg.out; rw [spanD_end _ _ _ (by omega)] at this; rw [this]; rfl, by assumption⟩
theorem impl_endOf_any (v : Value) (l : List Att) (i : Nat) (w : World) (h : RdA w v l) (hl : l.length ≤ 1048576) (hi : i < l.length) :
    Calls Tryd.prog 68 #[v, .int .i64 (i : Int)] w fun e w' => e = .returned (.int .i64 (endN l i)) ∧ Ext w w' := by
  obtain ⟨A, c, rfl, hc, hrd⟩ := h
  have HR := Lib.hid hrd
  obtain ⟨b, o, rfl, hb, hcell⟩ := hrd i l[i] (List.getElem?_eq_getElem hi)
  have HE := Lib.hid (show endN l i = i + 1 + spanD l[i].depth (l.drop (i + 1)) by simp [endN, hi])
  generalize l[i] = x at hcell HE
  have HC := Lib.hid hcell
  clear hrd hcell
  go_enter Tryd.func68, Tryd.ntmps68
  go_wp2
  go_loopw [5] (fun t wr => ∃ k : Nat, i + 1 ≤ k ∧ k ≤ l.length ∧ t = .int .i64 k ∧ Hid (endN l i = k + spanD x.depth (l.drop k)) ∧ Ext w wr) (fun t _ => l.length - (intOf t).toNat)
  case atStart => exact ⟨i + 1, Nat.le_refl _, by omega, by go_num, HE.out, Ext.refl _⟩
  case round =>
    obtain ⟨k, hk0, hk, rfl, hg, hx⟩ := hrel
    have z0 : b < wr.heap.size := Ext.lts hx _ hb
    have c0 : wr.cell? ⟨b, o + i * 4, none⟩ = some (.int .i64 x.depth) := by rw [Ext.cell hx hb]; exact HC.out 0 _ rfl
    by_cases hlt : k < l.length
    · obtain ⟨b', o', hA, hb', hcell'⟩ := HR.out k l[k] (List.getElem?_eq_getElem hlt)
      simp only [Option.some.injEq, Addr.mk.injEq, and_true] at hA
      obtain ⟨rfl, rfl⟩ := hA
      have hst := spanD_step x.depth l k hlt
      generalize l[k] = y at hcell' hst
      have c1 : wr.cell? ⟨b, o + k * 4, none⟩ = some (.int .i64 y.depth) := by rw [Ext.cell hx hb']; exact hcell' 0 _ rfl
      have HST := Lib.hid hst
      clear hcell' hst
      by_cases hd : x.depth < y.depth
      · (go_wp2_with fail; refine wp_region_ext (by kernel_rfl) (by kernel_rfl) ?_; (repeat (first | go_big_quiet_step (fail) | quiet_step (fail))); refine wpQuiet_nil ?_; intro wq hbq; (try (replace hbq := Ext.trans (by assumption) hbq)); have hcq := Ext.cells hbq; have hzq := Ext.frozens hbq; have hsq := Ext.lts hbq)
        go_wp2
        go_roundw
        case rel => exact ⟨k + 1, by omega, by omega, by go_num, by have := hg.out; rw [HST.out, if_pos hd] at this; show _ = _; omega, by assumption⟩
        case measure => simp [intOf]; omega
      · (go_wp2_with fail; refine wp_region_ext (by kernel_rfl) (by kernel_rfl) ?_; (repeat (first | go_big_quiet_step (fail) | quiet_step (fail))); refine wpQuiet_nil ?_; intro wq hbq; (try (replace hbq := Ext.trans (by assumption) hbq)); have hcq := Ext.cells hbq; have hzq := Ext.frozens hbq; have hsq := Ext.lts hbq)
        go_wp2
        go_ret
        exact ⟨by have := hg.out; rw [HST.out, if_neg (by omega)] at this; rw [this]; rfl, by assumption⟩
    · have hf : decide (k < l.length) = false := by simp; omega
      (go_wp2_with fail; refine wp_region_ext (by kernel_rfl) (by kernel_rfl) ?_; (repeat (first | go_big_quiet_step (fail) | quiet_step (fail))); refine wpQuiet_nil ?_; intro wq hbq; (try (replace hbq := Ext.trans (by assumption) hbq)); have hcq := Ext.cells hbq; have hzq := Ext.frozens hbq; have hsq := Ext.lts hbq)
      go_wp2
      go_ret
      exact ⟨by have := hg.out; rw [spanD_end _ _ _ (by omega)] at this; rw [this]; rfl, by assumption⟩
def endV (l : List Att) (i : Int) : Int := if hasB l i then endN l i.toNat else 0
end Go.Proofs.YtifhjhgccknndaaDoor
