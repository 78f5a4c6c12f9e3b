/- Contracts: parents of attributes. -/
import Derived.Test.YtifhjhgccknndaaAttr3
namespace Go.Proofs.Ytifhjhgccknndaa
open Go.RowKit
set_option maxHeartbeats 1000000
set_option linter.unusedSimpArgs false
set_option linter.unusedVariables false

/-- The last attribute before index i with a property, or -1. -/
def prevP (p : Att → Bool) (l : List Att) : Nat → Int
  | 0 => -1
  | k + 1 => match l[k]? with
    | some x => if p x then k else prevP p l k
    | none => prevP p l k
theorem prevP_step (p : Att → Bool) (l : List Att) (k : Nat) (h : k < l.length) : prevP p l (k + 1) = if p l[k] then (k : Int) else prevP p l k := by
  simp [prevP, h]
theorem prevP_bd (p : Att → Bool) (l : List Att) : ∀ i : Nat, -1 ≤ prevP p l i ∧ prevP p l i < i
  | 0 => by simp [prevP]
  | k + 1 => by
    have := prevP_bd p l k
    unfold prevP
    split
    · split <;> omega
    · omega
/-- Less deep than d. -/
def lessD (d : Int) (y : Att) : Bool := decide (y.depth < d)
def justD (d : Int) (y : Att) : Bool := y.depth == d - 1
/-- The parent of an attribute, or -1. -/
def parI (l : List Att) (i : Nat) : Int := match l[i]? with
  | some x => prevP (lessD x.depth) l i
  | none => -1
/-- Depths grow by at most one. -/
def slow (l : List Att) : Prop := ∀ k x y, l[k]? = some x → l[k + 1]? = some y → y.depth ≤ x.depth + 1
theorem goodFrom_get : ∀ (l : List Att) (most : Int), goodFrom most l = true → (∀ x, l[0]? = some x → x.depth ≤ most) ∧ slow l ∧ ∀ x ∈ l, 1 ≤ x.depth ∧ x.depth ≤ 8 ∧ 0 ≤ x.type ∧ x.type ≤ 32767 ∧ x.data.size ≤ 1000 ∧ (x.nested = true → x.data.toList.isEmpty = true)
  | [], _, _ => ⟨by simp, fun k x y h => by simp at h, by simp⟩
  | x :: r, most, h => by
    simp only [goodFrom, Bool.and_eq_true] at h
    have h1 := h.1
    obtain ⟨h2, h3⟩ := goodFrom_get r (mostAft x) h.2
    obtain ⟨hd, ht, hs, hn, hm⟩ := attOk_parts h1
    refine ⟨fun y hy => by simp at hy; subst hy; exact hm, fun k a b ha hb => ?_, fun y hy => ?_⟩
    · match k, ha, hb with
      | 0, ha, hb =>
        simp at ha hb
        subst ha
        have := h2 b (by simpa using hb)
        unfold mostAft at this
        split at this <;> omega
      | k + 1, ha, hb => exact h3.1 k a b (by simpa using ha) (by simpa using hb)
    · rcases List.mem_cons.1 hy with rfl | hy
      · exact ⟨hd.1, hd.2, ht.1, ht.2, hs, hn⟩
      · exact h3.2 y hy
theorem good_get {l : List Att} (h : goodB l = true) : l.length ≤ 400 ∧ (∀ x, l[0]? = some x → x.depth ≤ 1) ∧ slow l ∧ ∀ x ∈ l, 1 ≤ x.depth ∧ x.depth ≤ 8 ∧ 0 ≤ x.type ∧ x.type ≤ 32767 ∧ x.data.size ≤ 1000 ∧ (x.nested = true → x.data.toList.isEmpty = true) := by
  simp only [goodB, Bool.and_eq_true, decide_eq_true_eq] at h
  have := goodFrom_get l 1 h.2
  exact ⟨h.1, this⟩
/-- If the attribute at k is at least d deep, all before it are searched alike. -/
theorem prev_same (l : List Att) (hs : slow l) (d : Int) : ∀ k : Nat, k ≤ l.length → (∀ x, l[k]? = some x → d ≤ x.depth) → prevP (justD d) l k = prevP (lessD d) l k ∨ False ∨ k = l.length := by
  intro k
  induction k with
  | zero => intro _ _; exact .inl rfl
  | succ k ih =>
    intro hk hd
    by_cases hkl : k + 1 = l.length
    · exact .inr (.inr hkl)
    left
    have h0 : k < l.length := by omega
    rw [prevP_step _ l k h0, prevP_step _ l k h0]
    have hx : l[k]? = some l[k] := List.getElem?_eq_getElem h0
    have hy : l[k + 1]? = some l[k + 1] := List.getElem?_eq_getElem (by omega)
    have h1 := hs k _ _ hx hy
    have h2 := hd _ hy
    by_cases hj : l[k].depth < d
    · have e : l[k].depth = d - 1 := by omega
      simp [justD, lessD, e]
      omega
    · have e1 : justD d l[k] = false := by simp [justD]; omega
      have e2 : lessD d l[k] = false := by simp [lessD]; omega
      rw [e1, e2]
      simp only [Bool.false_eq_true, if_false]
      rcases ih (by omega) (fun x hx' => by rw [hx] at hx'; cases hx'; omega) with h | h | h
      · exact h
      · exact h.elim
      · omega
theorem parI_just {l : List Att} (hg : goodB l = true) (i : Nat) (hi : i < l.length) : prevP (justD l[i].depth) l i = parI l i := by
  obtain ⟨_, _, hs, _⟩ := good_get hg
  have e : parI l i = prevP (lessD l[i].depth) l i := by simp [parI, hi]
  rw [e]
  rcases prev_same l hs l[i].depth i (by omega) (fun x hx => by rw [List.getElem?_eq_getElem hi] at hx; cases hx; omega) with h | h | h
  · exact h
  · exact h.elim
  · omega

theorem impl_parentOf_raw (v : Value) (l : List Att) (i : Nat) (w : World) (h : RdA w v l) (hl : l.length ≤ 1048576) (hi : i < l.length) (hd0 : -1000 ≤ l[i].depth) (hd1 : l[i].depth ≤ 1000) :
    Calls Try.prog 66 #[v, .int .i64 (i : Int)] w fun e w' => e = .returned (.int .i64 (prevP (justD l[i].depth) l i)) ∧ Ext w w' := by
  obtain ⟨A, c, rfl, hc, hrd⟩ := h
  have HR := Lib.hid hrd
  obtain ⟨b, o, rfl, hb, hcell⟩ := hrd i l[i] (List.getElem?_eq_getElem hi)
  generalize l[i] = x at hcell hd0 hd1 ⊢
  have HC := Lib.hid hcell
  clear hrd hcell
  go_enter Try.func66, Try.ntmps66
  go_wp2
  go_loopw [5] (fun t wr => ∃ q : Int, -1 ≤ q ∧ q < i ∧ t = .int .i64 q ∧ Hid (prevP (justD x.depth) l i = prevP (justD x.depth) l (q + 1).toNat) ∧ Ext w wr) (fun t _ => (intOf t + 1).toNat)
  case atStart => exact ⟨(i : Int) - 1, by omega, by omega, rfl, by show _ = _; rw [show ((i : Int) - 1 + 1).toNat = i by omega], Ext.refl _⟩
  case round =>
    obtain ⟨q, hq0, hqi, rfl, hg, hx⟩ := hrel
    have z0 : b < wr.heap.size := Ext.lts hx _ hb
    have c0 : wr.cell? ⟨b, o + i * 4, none⟩ = some (.int .i64 x.depth) := by rw [Ext.cell hx hb]; exact HC.out 0 _ rfl
    by_cases hpos : 0 ≤ q
    · obtain ⟨m, rfl⟩ := Int.eq_ofNat_of_zero_le hpos
      have hm : m < l.length := by omega
      obtain ⟨b', o', hA, hb', hcell'⟩ := HR.out m l[m] (List.getElem?_eq_getElem hm)
      simp only [Option.some.injEq, Addr.mk.injEq, and_true] at hA
      obtain ⟨rfl, rfl⟩ := hA
      have hst := prevP_step (justD x.depth) l m hm
      generalize l[m] = y at hcell' hst
      have c1 : wr.cell? ⟨b, o + m * 4, none⟩ = some (.int .i64 y.depth) := by rw [Ext.cell hx hb']; exact hcell' 0 _ rfl
      have HST := Lib.hid (show prevP (justD x.depth) l i = if justD x.depth y then (m : Int) else prevP (justD x.depth) l m by rw [hg.out, show ((m : Int) + 1).toNat = m + 1 by omega, hst])
      clear hcell' hst
      cases hp : justD x.depth y
      · have HP := Lib.hid hp
        have hp' : justD x.depth y = false := hp
        simp only [justD, lessD, decide_eq_false_iff_not] at hp'
        clear hp
        first | (have hz : x.depth ≤ y.depth := by omega) | skip
        (go_wp2_with fail; refine wp_region_ext (by kernel_rfl) (by kernel_rfl) ?_; (repeat (first | go_big_quiet_step (fail) | quiet_step (fail))); refine wpQuiet_nil ?_; intro wq hbq; (try (replace hbq := Ext.trans (by assumption) hbq)); have hcq := Ext.cells hbq; have hzq := Ext.frozens hbq; have hsq := Ext.lts hbq)
        go_wp2
        go_roundw
        case rel => exact ⟨(m : Int) - 1, by omega, by omega, by first | rfl | go_num, by show _ = _; rw [HST.out, HP.out, show ((m : Int) - 1 + 1).toNat = m by omega]; (try rfl), by assumption⟩
        case measure => first | (simp [intOf]; done) | (simp [intOf]; omega)
      · have HP := Lib.hid hp
        have hp' : justD x.depth y = true := hp
        simp only [justD, lessD, decide_eq_true_eq] at hp'
        clear hp
        (go_wp2_with fail; refine wp_region_ext (by kernel_rfl) (by kernel_rfl) ?_; (repeat (first | go_big_quiet_step (fail) | quiet_step (fail))); refine wpQuiet_nil ?_; intro wq hbq; (try (replace hbq := Ext.trans (by assumption) hbq)); have hcq := Ext.cells hbq; have hzq := Ext.frozens hbq; have hsq := Ext.lts hbq)
        go_wp2
        go_ret
        exact ⟨by rw [HST.out, HP.out]; (try rfl), by assumption⟩
    · have hq : q = -1 := by omega
      subst hq
      first
        | (go_wp2; go_ret; exact ⟨by rw [hg.out]; rfl, by assumption⟩)
        | (have hf : decide ((0 : Int) ≤ -1) = false := by decide
           (go_wp2_with fail; refine wp_region_ext (by kernel_rfl) (by kernel_rfl) ?_; (repeat (first | go_big_quiet_step (fail) | quiet_step (fail))); refine wpQuiet_nil ?_; intro wq hbq; (try (replace hbq := Ext.trans (by assumption) hbq)); have hcq := Ext.cells hbq; have hzq := Ext.frozens hbq; have hsq := Ext.lts hbq)
           go_wp2
           go_ret
           exact ⟨by rw [hg.out]; rfl, by assumption⟩)
theorem spec_tvParent_raw (v : Value) (l : List Att) (i : Nat) (w : World) (h : RdA w v l) (hl : l.length ≤ 1048576) (hi : i < l.length) (hd0 : -1000 ≤ l[i].depth) (hd1 : l[i].depth ≤ 1000) :
    Calls Try.prog 65 #[v, .int .i64 (i : Int)] w fun e w' => e = .returned (.int .i64 (prevP (lessD l[i].depth) l i)) ∧ Ext w w' := by
  obtain ⟨A, c, rfl, hc, hrd⟩ := h
  have HR := Lib.hid hrd
  obtain ⟨b, o, rfl, hb, hcell⟩ := hrd i l[i] (List.getElem?_eq_getElem hi)
  generalize l[i] = x at hcell hd0 hd1 ⊢
  have HC := Lib.hid hcell
  clear hrd hcell
  go_enter Try.func65, Try.ntmps65
  go_wp2
  go_loopw [5] (fun t wr => ∃ q : Int, -1 ≤ q ∧ q < i ∧ t = .int .i64 q ∧ Hid (prevP (lessD x.depth) l i = prevP (lessD x.depth) l (q + 1).toNat) ∧ Ext w wr) (fun t _ => (intOf t + 1).toNat)
  case atStart => exact ⟨(i : Int) - 1, by omega, by omega, rfl, by show _ = _; rw [show ((i : Int) - 1 + 1).toNat = i by omega], Ext.refl _⟩
  case round =>
    obtain ⟨q, hq0, hqi, rfl, hg, hx⟩ := hrel
    have z0 : b < wr.heap.size := Ext.lts hx _ hb
    have c0 : wr.cell? ⟨b, o + i * 4, none⟩ = some (.int .i64 x.depth) := by rw [Ext.cell hx hb]; exact HC.out 0 _ rfl
    by_cases hpos : 0 ≤ q
    · obtain ⟨m, rfl⟩ := Int.eq_ofNat_of_zero_le hpos
      have hm : m < l.length := by omega
      obtain ⟨b', o', hA, hb', hcell'⟩ := HR.out m l[m] (List.getElem?_eq_getElem hm)
      simp only [Option.some.injEq, Addr.mk.injEq, and_true] at hA
      obtain ⟨rfl, rfl⟩ := hA
      have hst := prevP_step (lessD x.depth) l m hm
      generalize l[m] = y at hcell' hst
      have c1 : wr.cell? ⟨b, o + m * 4, none⟩ = some (.int .i64 y.depth) := by rw [Ext.cell hx hb']; exact hcell' 0 _ rfl
      have HST := Lib.hid (show prevP (lessD x.depth) l i = if lessD x.depth y then (m : Int) else prevP (lessD x.depth) l m by rw [hg.out, show ((m : Int) + 1).toNat = m + 1 by omega, hst])
      clear hcell' hst
      cases hp : lessD x.depth y
      · have HP := Lib.hid hp
        have hp' : lessD x.depth y = false := hp
        simp only [justD, lessD, decide_eq_false_iff_not] at hp'
        clear hp
        first | (have hz : x.depth ≤ y.depth := by omega) | skip
        (go_wp2_with fail; refine wp_region_ext (by kernel_rfl) (by kernel_rfl) ?_; (repeat (first | go_big_quiet_step (fail) | quiet_step (fail))); refine wpQuiet_nil ?_; intro wq hbq; (try (replace hbq := Ext.trans (by assumption) hbq)); have hcq := Ext.cells hbq; have hzq := Ext.frozens hbq; have hsq := Ext.lts hbq)
        go_wp2
        go_roundw
        case rel => exact ⟨(m : Int) - 1, by omega, by omega, by first | rfl | go_num, by show _ = _; rw [HST.out, HP.out, show ((m : Int) - 1 + 1).toNat = m by omega]; (try rfl), by assumption⟩
        case measure => first | (simp [intOf]; done) | (simp [intOf]; omega)
      · have HP := Lib.hid hp
        have hp' : lessD x.depth y = true := hp
        simp only [justD, lessD, decide_eq_true_eq] at hp'
        clear hp
        (go_wp2_with fail; refine wp_region_ext (by kernel_rfl) (by kernel_rfl) ?_; (repeat (first | go_big_quiet_step (fail) | quiet_step (fail))); refine wpQuiet_nil ?_; intro wq hbq; (try (replace hbq := Ext.trans (by assumption) hbq)); have hcq := Ext.cells hbq; have hzq := Ext.frozens hbq; have hsq := Ext.lts hbq)
        go_wp2
        go_ret
        exact ⟨by rw [HST.out, HP.out]; (try rfl), by assumption⟩
    · have hq : q = -1 := by omega
      subst hq
      first
        | (go_wp2; go_ret; exact ⟨by rw [hg.out]; rfl, by assumption⟩)
        | (have hf : decide ((0 : Int) ≤ -1) = false := by decide
           (go_wp2_with fail; refine wp_region_ext (by kernel_rfl) (by kernel_rfl) ?_; (repeat (first | go_big_quiet_step (fail) | quiet_step (fail))); refine wpQuiet_nil ?_; intro wq hbq; (try (replace hbq := Ext.trans (by assumption) hbq)); have hcq := Ext.cells hbq; have hzq := Ext.frozens hbq; have hsq := Ext.lts hbq)
           go_wp2
           go_ret
           exact ⟨by rw [hg.out]; rfl, by assumption⟩)
theorem impl_parentOf_any (v : Value) (l : List Att) (i : Nat) (w : World) (h : RdA w v l) (hl : l.length ≤ 1048576) (hi : i < l.length) (hg : goodB l = true) :
    Calls Try.prog 66 #[v, .int .i64 (i : Int)] w fun e w' => e = .returned (.int .i64 (parI l i)) ∧ Ext w w' := by
  have hd := (good_get hg).2.2.2 l[i] (List.getElem_mem hi)
  rw [← parI_just hg i hi]
  exact impl_parentOf_raw v l i w h hl hi (by omega) (by omega)
theorem spec_tvParent_any (v : Value) (l : List Att) (i : Nat) (w : World) (h : RdA w v l) (hl : l.length ≤ 1048576) (hi : i < l.length) (hg : goodB l = true) :
    Calls Try.prog 65 #[v, .int .i64 (i : Int)] w fun e w' => e = .returned (.int .i64 (parI l i)) ∧ Ext w w' := by
  have hd := (good_get hg).2.2.2 l[i] (List.getElem_mem hi)
  have e : parI l i = prevP (lessD l[i].depth) l i := by simp [parI, hi]
  rw [e]
  exact spec_tvParent_raw v l i w h hl hi (by omega) (by omega)

def dep (l : List Att) (i : Int) : Int := match l[i.toNat]? with
  | some x => x.depth
  | none => 0
def parB (l : List Att) (i : Int) : Bool := hasB l i && (dep l i != 1)
def parV (l : List Att) (i : Int) : Int := if parB l i then parI l i.toNat else 0
theorem spec_ParentOf_any (v : Value) (l : List Att) (i : Int) (w : World) (h : RdA w v l) (hl : l.length ≤ 1048576) :
    Calls Try.prog 27 #[v, .int .i64 i] w fun e w' => e = .returned (.tuple #[.int .i64 (parV l i), .bool (parB l i)]) ∧ Ext w w' := by
  have H := Lib.hid h
  by_cases hh : hasB l i = true
  · obtain ⟨hg, h0, h1⟩ := hasB_parts hh
    obtain ⟨n, rfl⟩ := Int.eq_ofNat_of_zero_le h0
    have hn : n < l.length := by omega
    obtain ⟨A, c, rfl, hc, hrd⟩ := h
    obtain ⟨b, o, rfl, hb, hcell⟩ := hrd n l[n] (List.getElem?_eq_getElem hn)
    have hdep : dep l n = l[n].depth := by simp [dep, hn]
    generalize l[n] = x at hcell hdep
    have HC := Lib.hid hcell
    have HD := Lib.hid hdep
    have HG := Lib.hid hg
    clear hrd hcell hdep hg
    by_cases hd : x.depth = 1
    · have HB := Lib.hid (show parB l n = false by simp [parB, HD.out, hd])
      have HV := Lib.hid (show parV l n = 0 by simp [parV, HB.out])
      have hd' : (x.depth == 1) = true := by simp [hd]
      have HH := Lib.hid hd
      clear hd
      go_enter Try.func27, Try.ntmps27
      go_wp2_with fail
      refine (spec_tvHas_any _ l _ _ H.out hl).mono ?_
      rintro e w1 ⟨rfl, hb1⟩
      have c0 : w1.cell? ⟨b, o + n * 4, none⟩ = some (.int .i64 x.depth) := by rw [Ext.cell hb1 hb]; exact HC.out 0 _ rfl
      go_wp2
      go_ret2
      exact ⟨by rw [HV.out, HB.out]; rfl, hb1⟩
    · have HB := Lib.hid (show parB l n = true by simp [parB, HD.out, hd, hh])
      have HV := Lib.hid (show parV l n = parI l n by simp [parV, HB.out])
      have hd' : (x.depth == 1) = false := by simp [hd]
      have HH := Lib.hid hd
      clear hd
      go_enter Try.func27, Try.ntmps27
      go_wp2_with fail
      refine (spec_tvHas_any _ l _ _ H.out hl).mono ?_
      rintro e w1 ⟨rfl, hb1⟩
      have c0 : w1.cell? ⟨b, o + n * 4, none⟩ = some (.int .i64 x.depth) := by rw [Ext.cell hb1 hb]; exact HC.out 0 _ rfl
      go_wp2_with fail
      refine (spec_tvParent_any _ l n _ (H.out.ext hb1) hl hn HG.out).mono ?_
      rintro e w2 ⟨rfl, hb2⟩
      go_wp2
      go_ret2
      exact ⟨by rw [HV.out, HB.out]; rfl, hb1.trans hb2⟩
  · replace hh : hasB l i = false := by simpa using hh
    have HB := Lib.hid (show parB l i = false by simp [parB, hh])
    have HV := Lib.hid (show parV l i = 0 by simp [parV, HB.out])
    clear h
    go_enter Try.func27, Try.ntmps27
    go_wp2_with fail
    refine (spec_tvHas_any _ l _ _ H.out hl).mono ?_
    rintro e w1 ⟨rfl, hb⟩
    go_wp2
    go_ret2
    exact ⟨by rw [HV.out, HB.out]; rfl, hb⟩
theorem impl_ParentOf_any (v : Value) (l : List Att) (i : Int) (w : World) (h : RdA w v l) (hl : l.length ≤ 1048576) :
    Calls Try.prog 28 #[v, .int .i64 i] w fun e w' => e = .returned (.tuple #[.int .i64 (parV l i), .bool (parB l i)]) ∧ Ext w w' := by
  have H := Lib.hid h
  by_cases hh : hasB l i = true
  · obtain ⟨hg, h0, h1⟩ := hasB_parts hh
    obtain ⟨n, rfl⟩ := Int.eq_ofNat_of_zero_le h0
    have hn : n < l.length := by omega
    obtain ⟨A, c, rfl, hc, hrd⟩ := h
    obtain ⟨b, o, rfl, hb, hcell⟩ := hrd n l[n] (List.getElem?_eq_getElem hn)
    have hdep : dep l n = l[n].depth := by simp [dep, hn]
    generalize l[n] = x at hcell hdep
    have HC := Lib.hid hcell
    have HD := Lib.hid hdep
    have HG := Lib.hid hg
    clear hrd hcell hdep hg
    by_cases hd : x.depth = 1
    · have HB := Lib.hid (show parB l n = false by simp [parB, HD.out, hd])
      have HV := Lib.hid (show parV l n = 0 by simp [parV, HB.out])
      have hd' : (x.depth == 1) = true := by simp [hd]
      have HH := Lib.hid hd
      clear hd
      go_enter Try.func28, Try.ntmps28
      go_wp2_with fail
      refine (impl_isAttrOf_any _ l _ _ H.out hl).mono ?_
      rintro e w1 ⟨rfl, hb1⟩
      have c0 : w1.cell? ⟨b, o + n * 4, none⟩ = some (.int .i64 x.depth) := by rw [Ext.cell hb1 hb]; exact HC.out 0 _ rfl
      go_wp2
      go_ret2
      exact ⟨by rw [HV.out, HB.out]; rfl, hb1⟩
    · have HB := Lib.hid (show parB l n = true by simp [parB, HD.out, hd, hh])
      have HV := Lib.hid (show parV l n = parI l n by simp [parV, HB.out])
      have hd' : (x.depth == 1) = false := by simp [hd]
      have HH := Lib.hid hd
      clear hd
      go_enter Try.func28, Try.ntmps28
      go_wp2_with fail
      refine (impl_isAttrOf_any _ l _ _ H.out hl).mono ?_
      rintro e w1 ⟨rfl, hb1⟩
      have c0 : w1.cell? ⟨b, o + n * 4, none⟩ = some (.int .i64 x.depth) := by rw [Ext.cell hb1 hb]; exact HC.out 0 _ rfl
      go_wp2_with fail
      refine (impl_parentOf_any _ l n _ (H.out.ext hb1) hl hn HG.out).mono ?_
      rintro e w2 ⟨rfl, hb2⟩
      go_wp2
      go_ret2
      exact ⟨by rw [HV.out, HB.out]; rfl, hb1.trans hb2⟩
  · replace hh : hasB l i = false := by simpa using hh
    have HB := Lib.hid (show parB l i = false by simp [parB, hh])
    have HV := Lib.hid (show parV l i = 0 by simp [parV, HB.out])
    clear h
    go_enter Try.func28, Try.ntmps28
    go_wp2_with fail
    refine (impl_isAttrOf_any _ l _ _ H.out hl).mono ?_
    rintro e w1 ⟨rfl, hb⟩
    go_wp2
    go_ret2
    exact ⟨by rw [HV.out, HB.out]; rfl, hb⟩
end Go.Proofs.Ytifhjhgccknndaa
