/- Contracts: attributes by index, their ends and parents. -/
import Derived.Test.YtifhjhgccknndaaAttr2
namespace Go.Proofs.Ytifhjhgccknndaa
open Go.RowKit
set_option maxHeartbeats 1000000
set_option linter.unusedSimpArgs false
set_option linter.unusedVariables false

theorem spec_AreAttrs_any (v : Value) (l : List Att) (w : World) (h : RdA w v l) (hl : l.length ≤ 1048576) :
    Calls Try.prog 16 #[v] w fun e w' => e = .returned (.bool (goodB l)) ∧ Ext w w' := by
  go_enter Try.func16, Try.ntmps16
  go_wp2_with fail
  refine (spec_tvGood_any _ l _ h hl).mono ?_
  rintro e w1 ⟨rfl, hb⟩
  go_wp2
  go_ret
  exact ⟨rfl, hb⟩

def hasB (l : List Att) (i : Int) : Bool := goodB l && inR i 0 ((l.length : Int) - 1)
theorem hasB_parts {l : List Att} {i : Int} (h : hasB l i = true) : goodB l = true ∧ 0 ≤ i ∧ i < l.length := by
  simp only [hasB, Bool.and_eq_true, inR_iff] at h
  exact ⟨h.1, by omega, by omega⟩
theorem spec_tvHas_any (v : Value) (l : List Att) (i : Int) (w : World) (h : RdA w v l) (hl : l.length ≤ 1048576) :
    Calls Try.prog 61 #[v, .int .i64 i] w fun e w' => e = .returned (.bool (hasB l i)) ∧ Ext w w' := by
  have h' := h
  obtain ⟨A, c, rfl, hc, _⟩ := h'
  have H := Lib.hid h
  clear h
  go_enter Try.func61, Try.ntmps61
  go_wp2_with fail
  refine (spec_tvGood_any _ l _ H.out hl).mono ?_
  rintro e w1 ⟨rfl, hb⟩
  go_wp2_with (go_at_call 75; refine (spec_l1In_any _ _ _ _ ).mono ?_; rintro e w' ⟨rfl, rfl⟩)
  all_goals (go_ret; refine ⟨?_, hb⟩; simp [hasB, *])
theorem impl_isAttrOf_any (v : Value) (l : List Att) (i : Int) (w : World) (h : RdA w v l) (hl : l.length ≤ 1048576) :
    Calls Try.prog 63 #[v, .int .i64 i] w fun e w' => e = .returned (.bool (hasB l i)) ∧ Ext w w' := by
  have h' := h
  obtain ⟨A, c, rfl, hc, _⟩ := h'
  have H := Lib.hid h
  clear h
  go_enter Try.func63, Try.ntmps63
  go_wp2_with fail
  refine (impl_AreAttrs_any _ l _ H.out hl).mono ?_
  rintro e w1 ⟨rfl, hb⟩
  go_wp2
  all_goals (go_ret; refine ⟨?_, hb⟩; first | (simp [hasB, inR, *]; done) | (simp [hasB, inR, *]; omega))

/-- How many attributes from the front on are deeper than d. -/
def spanD (d : Int) : List Att → Nat
  | [] => 0
  | x :: r => if d < x.depth then spanD d r + 1 else 0
def endN (l : List Att) (i : Nat) : Nat := match l[i]? with
  | some x => i + 1 + spanD x.depth (l.drop (i + 1))
  | none => i + 1
theorem spanD_le (d : Int) : ∀ r : List Att, spanD d r ≤ r.length
  | [] => by simp [spanD]
  | x :: r => by
    have := spanD_le d r
    unfold spanD
    split
    · simp; omega
    · simp
theorem spanD_step (d : Int) (l : List Att) (k : Nat) (h : k < l.length) : spanD d (l.drop k) = if d < l[k].depth then spanD d (l.drop (k + 1)) + 1 else 0 := by
  rw [List.drop_eq_getElem_cons h]
  rfl
theorem spanD_end (d : Int) (l : List Att) (k : Nat) (h : l.length ≤ k) : spanD d (l.drop k) = 0 := by
  rw [List.drop_eq_nil_of_le h]
  rfl
theorem endN_lt (l : List Att) (i : Nat) (h : i < l.length) : i < endN l i ∧ endN l i ≤ l.length := by
  have := spanD_le (l[i].depth) (l.drop (i + 1))
  simp only [endN, List.getElem?_eq_getElem h]
  simp at this
  omega
theorem spec_tvEnd_any (v : Value) (l : List Att) (i : Nat) (w : World) (h : RdA w v l) (hl : l.length ≤ 1048576) (hi : i < l.length) :
    Calls Try.prog 62 #[v, .int .i64 (i : Int)] w fun e w' => e = .returned (.int .i64 (endN l i)) ∧ Ext w w' := by
  obtain ⟨A, c, rfl, hc, hrd⟩ := h
  have HR := Lib.hid hrd
  obtain ⟨b, o, rfl, hb, hcell⟩ := hrd i l[i] (List.getElem?_eq_getElem hi)
  have HE := Lib.hid (show endN l i = i + 1 + spanD l[i].depth (l.drop (i + 1)) by simp [endN, hi])
  generalize l[i] = x at hcell HE
  have HC := Lib.hid hcell
  clear hrd hcell
  go_enter Try.func62, Try.ntmps62
  go_wp2
  go_loopw [5] (fun t wr => ∃ k : Nat, i + 1 ≤ k ∧ k ≤ l.length ∧ t = .int .i64 k ∧ Hid (endN l i = k + spanD x.depth (l.drop k)) ∧ Ext w wr) (fun t _ => l.length - (intOf t).toNat)
  case atStart => exact ⟨i + 1, Nat.le_refl _, by omega, by go_num, HE.out, Ext.refl _⟩
  case round =>
    obtain ⟨k, hk0, hk, rfl, hg, hx⟩ := hrel
    have z0 : b < wr.heap.size := Ext.lts hx _ hb
    have c0 : wr.cell? ⟨b, o + i * 4, none⟩ = some (.int .i64 x.depth) := by rw [Ext.cell hx hb]; exact HC.out 0 _ rfl
    by_cases hlt : k < l.length
    · obtain ⟨b', o', hA, hb', hcell'⟩ := HR.out k l[k] (List.getElem?_eq_getElem hlt)
      simp only [Option.some.injEq, Addr.mk.injEq, and_true] at hA
      obtain ⟨rfl, rfl⟩ := hA
      have hst := spanD_step x.depth l k hlt
      generalize l[k] = y at hcell' hst
      have c1 : wr.cell? ⟨b, o + k * 4, none⟩ = some (.int .i64 y.depth) := by rw [Ext.cell hx hb']; exact hcell' 0 _ rfl
      have HST := Lib.hid hst
      clear hcell' hst
      by_cases hd : x.depth < y.depth
      · (go_wp2_with fail; refine wp_region_ext (by kernel_rfl) (by kernel_rfl) ?_; (repeat (first | go_big_quiet_step (fail) | quiet_step (fail))); refine wpQuiet_nil ?_; intro wq hbq; (try (replace hbq := Ext.trans (by assumption) hbq)); have hcq := Ext.cells hbq; have hzq := Ext.frozens hbq; have hsq := Ext.lts hbq)
        go_wp2
        go_roundw
        case rel => exact ⟨k + 1, by omega, by omega, by go_num, by have := hg.out; rw [HST.out, if_pos hd] at this; show _ = _; omega, by assumption⟩
        case measure => simp [intOf]; omega
      · (go_wp2_with fail; refine wp_region_ext (by kernel_rfl) (by kernel_rfl) ?_; (repeat (first | go_big_quiet_step (fail) | quiet_step (fail))); refine wpQuiet_nil ?_; intro wq hbq; (try (replace hbq := Ext.trans (by assumption) hbq)); have hcq := Ext.cells hbq; have hzq := Ext.frozens hbq; have hsq := Ext.lts hbq)
        go_wp2
        go_ret
        exact ⟨by have := hg.out; rw [HST.out, if_neg (by omega)] at this; rw [this]; rfl, by assumption⟩
    · have hf : decide (k < l.length) = false := by simp; omega
      (go_wp2_with fail; refine wp_region_ext (by kernel_rfl) (by kernel_rfl) ?_; (repeat (first | go_big_quiet_step (fail) | quiet_step (fail))); refine wpQuiet_nil ?_; intro wq hbq; (try (replace hbq := Ext.trans (by assumption) hbq)); have hcq := Ext.cells hbq; have hzq := Ext.frozens hbq; have hsq := Ext.lts hbq)
      go_wp2
      go_ret
      exact ⟨by have := hg.out; rw [spanD_end _ _ _ (by omega)] at this; rw [this]; rfl, by assumption⟩
theorem impl_endOf_any (v : Value) (l : List Att) (i : Nat) (w : World) (h : RdA w v l) (hl : l.length ≤ 1048576) (hi : i < l.length) :
    Calls Try.prog 64 #[v, .int .i64 (i : Int)] w fun e w' => e = .returned (.int .i64 (endN l i)) ∧ Ext w w' := by
  obtain ⟨A, c, rfl, hc, hrd⟩ := h
  have HR := Lib.hid hrd
  obtain ⟨b, o, rfl, hb, hcell⟩ := hrd i l[i] (List.getElem?_eq_getElem hi)
  have HE := Lib.hid (show endN l i = i + 1 + spanD l[i].depth (l.drop (i + 1)) by simp [endN, hi])
  generalize l[i] = x at hcell HE
  have HC := Lib.hid hcell
  clear hrd hcell
  go_enter Try.func64, Try.ntmps64
  go_wp2
  go_loopw [5] (fun t wr => ∃ k : Nat, i + 1 ≤ k ∧ k ≤ l.length ∧ t = .int .i64 k ∧ Hid (endN l i = k + spanD x.depth (l.drop k)) ∧ Ext w wr) (fun t _ => l.length - (intOf t).toNat)
  case atStart => exact ⟨i + 1, Nat.le_refl _, by omega, by go_num, HE.out, Ext.refl _⟩
  case round =>
    obtain ⟨k, hk0, hk, rfl, hg, hx⟩ := hrel
    have z0 : b < wr.heap.size := Ext.lts hx _ hb
    have c0 : wr.cell? ⟨b, o + i * 4, none⟩ = some (.int .i64 x.depth) := by rw [Ext.cell hx hb]; exact HC.out 0 _ rfl
    by_cases hlt : k < l.length
    · obtain ⟨b', o', hA, hb', hcell'⟩ := HR.out k l[k] (List.getElem?_eq_getElem hlt)
      simp only [Option.some.injEq, Addr.mk.injEq, and_true] at hA
      obtain ⟨rfl, rfl⟩ := hA
      have hst := spanD_step x.depth l k hlt
      generalize l[k] = y at hcell' hst
      have c1 : wr.cell? ⟨b, o + k * 4, none⟩ = some (.int .i64 y.depth) := by rw [Ext.cell hx hb']; exact hcell' 0 _ rfl
      have HST := Lib.hid hst
      clear hcell' hst
      by_cases hd : x.depth < y.depth
      · (go_wp2_with fail; refine wp_region_ext (by kernel_rfl) (by kernel_rfl) ?_; (repeat (first | go_big_quiet_step (fail) | quiet_step (fail))); refine wpQuiet_nil ?_; intro wq hbq; (try (replace hbq := Ext.trans (by assumption) hbq)); have hcq := Ext.cells hbq; have hzq := Ext.frozens hbq; have hsq := Ext.lts hbq)
        go_wp2
        go_roundw
        case rel => exact ⟨k + 1, by omega, by omega, by go_num, by have := hg.out; rw [HST.out, if_pos hd] at this; show _ = _; omega, by assumption⟩
        case measure => simp [intOf]; omega
      · (go_wp2_with fail; refine wp_region_ext (by kernel_rfl) (by kernel_rfl) ?_; (repeat (first | go_big_quiet_step (fail) | quiet_step (fail))); refine wpQuiet_nil ?_; intro wq hbq; (try (replace hbq := Ext.trans (by assumption) hbq)); have hcq := Ext.cells hbq; have hzq := Ext.frozens hbq; have hsq := Ext.lts hbq)
        go_wp2
        go_ret
        exact ⟨by have := hg.out; rw [HST.out, if_neg (by omega)] at this; rw [this]; rfl, by assumption⟩
    · have hf : decide (k < l.length) = false := by simp; omega
      (go_wp2_with fail; refine wp_region_ext (by kernel_rfl) (by kernel_rfl) ?_; (repeat (first | go_big_quiet_step (fail) | quiet_step (fail))); refine wpQuiet_nil ?_; intro wq hbq; (try (replace hbq := Ext.trans (by assumption) hbq)); have hcq := Ext.cells hbq; have hzq := Ext.frozens hbq; have hsq := Ext.lts hbq)
      go_wp2
      go_ret
      exact ⟨by have := hg.out; rw [spanD_end _ _ _ (by omega)] at this; rw [this]; rfl, by assumption⟩
def endV (l : List Att) (i : Int) : Int := if hasB l i then endN l i.toNat else 0
theorem spec_EndOfAttr_any (v : Value) (l : List Att) (i : Int) (w : World) (h : RdA w v l) (hl : l.length ≤ 1048576) :
    Calls Try.prog 25 #[v, .int .i64 i] w fun e w' => e = .returned (.tuple #[.int .i64 (endV l i), .bool (hasB l i)]) ∧ Ext w w' := by
  have H := Lib.hid h
  clear h
  by_cases hh : hasB l i = true
  · obtain ⟨_, h0, h1⟩ := hasB_parts hh
    obtain ⟨n, rfl⟩ := Int.eq_ofNat_of_zero_le h0
    have HV := Lib.hid (show endV l n = endN l n by simp [endV, hh])
    go_enter Try.func25, Try.ntmps25
    go_wp2_with fail
    refine (spec_tvHas_any _ l _ _ H.out hl).mono ?_
    rintro e w1 ⟨rfl, hb⟩
    go_wp2_with fail
    refine (spec_tvEnd_any _ l n _ (H.out.ext hb) hl (by omega)).mono ?_
    rintro e w2 ⟨rfl, hb2⟩
    go_wp2
    go_ret2
    exact ⟨by rw [HV.out, hh]; rfl, hb.trans hb2⟩
  · replace hh : hasB l i = false := by simpa using hh
    have HV := Lib.hid (show endV l i = 0 by simp [endV, hh])
    go_enter Try.func25, Try.ntmps25
    go_wp2_with fail
    refine (spec_tvHas_any _ l _ _ H.out hl).mono ?_
    rintro e w1 ⟨rfl, hb⟩
    go_wp2
    go_ret2
    exact ⟨by rw [HV.out, hh]; rfl, hb⟩

theorem impl_EndOfAttr_any (v : Value) (l : List Att) (i : Int) (w : World) (h : RdA w v l) (hl : l.length ≤ 1048576) :
    Calls Try.prog 26 #[v, .int .i64 i] w fun e w' => e = .returned (.tuple #[.int .i64 (endV l i), .bool (hasB l i)]) ∧ Ext w w' := by
  have H := Lib.hid h
  clear h
  by_cases hh : hasB l i = true
  · obtain ⟨_, h0, h1⟩ := hasB_parts hh
    obtain ⟨n, rfl⟩ := Int.eq_ofNat_of_zero_le h0
    have HV := Lib.hid (show endV l n = endN l n by simp [endV, hh])
    go_enter Try.func26, Try.ntmps26
    go_wp2_with fail
    refine (impl_isAttrOf_any _ l _ _ H.out hl).mono ?_
    rintro e w1 ⟨rfl, hb⟩
    go_wp2_with fail
    refine (impl_endOf_any _ l n _ (H.out.ext hb) hl (by omega)).mono ?_
    rintro e w2 ⟨rfl, hb2⟩
    go_wp2
    go_ret2
    exact ⟨by rw [HV.out, hh]; rfl, hb.trans hb2⟩
  · replace hh : hasB l i = false := by simpa using hh
    have HV := Lib.hid (show endV l i = 0 by simp [endV, hh])
    go_enter Try.func26, Try.ntmps26
    go_wp2_with fail
    refine (impl_isAttrOf_any _ l _ _ H.out hl).mono ?_
    rintro e w1 ⟨rfl, hb⟩
    go_wp2
    go_ret2
    exact ⟨by rw [HV.out, hh]; rfl, hb⟩

theorem laws_szAttr_any (x : Att) (k : Int) (w : World) (hk0 : 0 ≤ k) (hk : k ≤ 1048576) (hx : x.data.size ≤ maxLen) :
    Calls Try.prog 50 #[attV x, .int .i64 k] w fun e w' => e = .returned (.int .i64 (if k < x.data.size then -1 else k - x.data.size)) ∧ Ext w w' := by
  unfold maxLen at hx
  by_cases h : k < x.data.size
  · rw [if_pos h]
    go_enter Try.func50, Try.ntmps50
    go_wp2
    go_ret
    refine ⟨rfl, ?_⟩
    (repeat (first | (with_reducible exact Ext.refl _) | (with_reducible assumption) | (with_reducible apply Ext.alloc) | (with_reducible apply Ext.drew) | (with_reducible apply Ext.drewN) | ((with_reducible refine Ext.setCell ?_ ?_ _); rotate_left; (focus (first | (simp; done) | (simp; omega) | omega))) | (with_reducible refine Ext.trans ?_ (by assumption))))
  · rw [if_neg h]
    go_enter Try.func50, Try.ntmps50
    go_wp2
    go_ret
    refine ⟨rfl, ?_⟩
    (repeat (first | (with_reducible exact Ext.refl _) | (with_reducible assumption) | (with_reducible apply Ext.alloc) | (with_reducible apply Ext.drew) | (with_reducible apply Ext.drewN) | ((with_reducible refine Ext.setCell ?_ ?_ _); rotate_left; (focus (first | (simp; done) | (simp; omega) | omega))) | (with_reducible refine Ext.trans ?_ (by assumption))))
theorem laws_szAttrS_any (v : Value) (l : List Att) (w : World) (h : RdA w v l) (hl : l.length ≤ maxLen) (hok : ∀ x ∈ l, x.data.size ≤ maxLen) :
    Calls Try.prog 15 #[v, .int .i64 1048576] w fun e w' => (∃ r : Int, e = .returned (.int .i64 r) ∧ (0 ≤ r → l.length ≤ 1048576)) ∧ Ext w w' := by
  obtain ⟨A, c, rfl, hc, hrd⟩ := h
  have HR := Lib.hid hrd
  have HO := Lib.hid hok
  clear hrd hok
  unfold maxLen at hl
  by_cases hn : l.length ≤ 1048576
  · go_enter Try.func15, Try.ntmps15
    go_wp2
    go_loopw [5, 1] (fun t s wr => ∃ (k : Nat) (r : Int), k ≤ l.length ∧ t = .int .i64 k ∧ s = .int .i64 r ∧ 0 ≤ r ∧ r ≤ 1048576 ∧ Ext w wr) (fun t _ _ => l.length - (intOf t).toNat)
    case atStart => exact ⟨0, _, Nat.zero_le _, rfl, rfl, by omega, by omega, Ext.refl _⟩
    case round =>
      obtain ⟨k, r, hk, rfl, rfl, r0, r1, hx⟩ := hrel
      by_cases hlt : k < l.length
      · obtain ⟨b, o, rfl, hb, hcell⟩ := HR.out k l[k] (List.getElem?_eq_getElem hlt)
        have hsx := HO.out l[k] (List.getElem_mem hlt)
        generalize l[k] = x at hcell hsx
        have c0 : wr.cell? ⟨b, o + k * 4, none⟩ = some (.int .i64 x.depth) := by rw [Ext.cell hx hb]; exact hcell 0 _ rfl
        have c1 : wr.cell? ⟨b, o + k * 4 + 1, none⟩ = some (.int .i64 x.type) := by rw [Ext.cell hx hb]; exact hcell 1 _ rfl
        have c2 : wr.cell? ⟨b, o + k * 4 + 2, none⟩ = some (.bool x.nested) := by rw [Ext.cell hx hb]; exact hcell 2 _ rfl
        have c3 : wr.cell? ⟨b, o + k * 4 + 3, none⟩ = some (.string x.data) := by rw [Ext.cell hx hb]; exact hcell 3 _ rfl
        clear hcell
        go_wp2_with fail
        refine (laws_szAttr_any x r _ r0 r1 hsx).mono ?_
        rintro e w1 ⟨rfl, hb1⟩
        clear c0 c1 c2 c3
        by_cases hq : r < x.data.size
        · rw [if_pos hq]
          go_wp2
          go_ret
          exact ⟨⟨_, rfl, fun _ => hn⟩, hx.trans hb1⟩
        · rw [if_neg hq]
          go_wp2
          go_roundw
          case rel => exact ⟨k + 1, _, by omega, by go_num, rfl, by omega, by omega, hx.trans hb1⟩
          case measure => simp [intOf]; omega
      · go_wp2
        go_ret
        exact ⟨⟨_, rfl, fun _ => hn⟩, hx⟩
  · go_enter Try.func15, Try.ntmps15
    go_wp2
    go_ret
    exact ⟨⟨_, rfl, fun h => absurd h (by omega)⟩, Ext.refl _⟩
end Go.Proofs.Ytifhjhgccknndaa
