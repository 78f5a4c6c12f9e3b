/- Contracts: SizeOf, OffsetOf. -/
import Derived.Test.YtifhjhgccknndaaAttR
namespace Go.Proofs.Ytifhjhgccknndaa
open Go.RowKit
set_option maxHeartbeats 1000000
set_option linter.unusedSimpArgs false
set_option linter.unusedVariables false

theorem prevP_spec (p : Att → Bool) (l : List Att) : ∀ i : Nat, i ≤ l.length → (prevP p l i = -1 → ∀ k (h : k < l.length), k < i → p l[k] = false) ∧ (∀ u : Nat, prevP p l i = u → u < i ∧ (∀ h : u < l.length, p l[u] = true) ∧ ∀ k (h : k < l.length), u < k → k < i → p l[k] = false)
  | 0, _ => ⟨fun _ k h hk => absurd hk (by omega), fun u hu => by have h0 : prevP p l 0 = -1 := rfl; omega⟩
  | i + 1, hi => by
    have ih := prevP_spec p l i (by omega)
    rw [prevP_step p l i (by omega)]
    by_cases hp : p l[i] = true
    · rw [if_pos hp]
      refine ⟨fun h => by omega, fun u hu => ?_⟩
      obtain rfl : i = u := by omega
      exact ⟨by omega, fun _ => hp, fun k h h1 h2 => by omega⟩
    · rw [if_neg hp]
      have hpf : p l[i] = false := by simpa using hp
      refine ⟨fun h k hk1 hk2 => ?_, fun u hu => ?_⟩
      · by_cases e : k = i
        · subst e; exact hpf
        · exact ih.1 h k hk1 (by omega)
      · obtain ⟨h1, h2, h3⟩ := ih.2 u hu
        refine ⟨by omega, h2, fun k hk1 hk2 hk3 => ?_⟩
        by_cases e : k = i
        · subst e; exact hpf
        · exact h3 k hk1 hk2 (by omega)
theorem closed_before (l : List Att) (a i : Nat) (hi : i < l.length) (h : ∀ k (hk : k < l.length), a ≤ k → k < i → l[i].depth ≤ l[k].depth) : closed l a i := by
  intro k h1 h2
  have hkl : k < l.length := by omega
  rcases Nat.lt_or_ge i (endN l k) with hlt | hge
  · exfalso
    have := end_in l k i hkl hi h2 hlt
    have := h k hkl h1 h2
    omega
  · exact hge
theorem parI_is (l : List Att) (i : Nat) (hi : i < l.length) : parI l i = prevP (lessD l[i].depth) l i := by simp [parI, hi]
theorem par_none (l : List Att) (i : Nat) (hi : i < l.length) (h : parI l i = -1) : closed l 0 i := by
  rw [parI_is l i hi] at h
  refine closed_before l 0 i hi fun k hk _ hki => ?_
  have := (prevP_spec _ l i (by omega)).1 h k hk hki
  simp [lessD] at this
  omega
theorem par_some {l : List Att} (hg : goodB l = true) (i u : Nat) (hi : i < l.length) (h : parI l i = u) : u < i ∧ closed l (u + 1) i ∧ preSz l (u + 1) = preSz l u + 4 := by
  rw [parI_is l i hi] at h
  obtain ⟨h1, h2, h3⟩ := (prevP_spec _ l i (by omega)).2 u h
  have hu : u < l.length := by omega
  have hd : l[u].depth < l[i].depth := by simpa [lessD] using h2 hu
  have hge : ∀ k (hk : k < l.length), u < k → k < i → l[i].depth ≤ l[k].depth := fun k hk a b => by
    have := h3 k hk a b
    simp [lessD] at this
    omega
  refine ⟨h1, closed_before l (u + 1) i hi fun k hk a b => hge k hk (by omega) b, ?_⟩
  have hn : l[u].nested = true := by
    have h4 := good_nest hg u (by omega)
    have h5 : l[u].depth < l[u + 1].depth := by
      by_cases e : u + 1 = i
      · subst e; exact hd
      · have := hge (u + 1) (by omega) (by omega) (by omega)
        omega
    cases hn : l[u].nested
    · rw [show mostAft l[u] = l[u].depth by simp [mostAft, hn]] at h4
      omega
    · rfl
  rw [preSz_succ l u hu, sz_nested hg u hu hn]

def szB (l : List Att) (i : Int) : Bool := hasB l i && decide (preSz l l.length ≤ 6000)
def szV (l : List Att) (i : Int) : Int := if szB l i then preSz l (endN l i.toNat) - preSz l i.toNat else 0
def offV (l : List Att) (i : Int) : Int := if szB l i then preSz l i.toNat else 0

theorem spec_tvOffset_any (v : Value) (l : List Att) (hg : goodB l = true) : ∀ (N i : Nat) (w : World), i ≤ N → RdA w v l → i < l.length →
    Calls Try.prog 74 #[v, .int .i64 (i : Int)] w fun e w' => e = .returned (.int .i64 (preSz l i)) ∧ Ext w w' := by
  have hl := (good_get hg).1
  intro N
  induction N with
  | zero =>
    intro i w hN h hi
    obtain rfl : i = 0 := by omega
    have H := Lib.hid h
    clear h
    have hp : parI l 0 = -1 := by rw [parI_is l 0 hi]; rfl
    have HG := Lib.hid hg
    clear hg
    go_enter Try.func74, Try.ntmps74
    go_wp2_with fail
    refine (spec_tvParent_any _ l 0 _ H.out (by omega) hi HG.out).mono ?_
    rintro e w1 ⟨rfl, F1⟩
    rw [hp]
    go_wp2_with fail
    refine (spec_tvLength_any _ l 0 0 _ (H.out.ext F1) (by omega) (by omega) (fun k _ hk => absurd hk (by omega)) HG.out).mono ?_
    rintro e w2 ⟨rfl, F2⟩
    go_wp2
    go_ret
    exact ⟨by show Ending.returned (Value.int .i64 _) = _; simp [preSz], F1.trans F2⟩
  | succ N ih =>
    intro i w hN h hi
    have H := Lib.hid h
    have IH := Lib.hid ih
    have HG := Lib.hid hg
    clear h ih hg
    have hbd := prevP_bd (lessD l[i].depth) l i
    rw [← parI_is l i hi] at hbd
    have hm0 := preSz_mono HG.out 0 i (by omega) (by omega)
    rw [show preSz l 0 = 0 from rfl] at hm0
    obtain ⟨hm0, hm1⟩ := hm0
    by_cases hp : parI l i = -1
    · have HC := Lib.hid (par_none l i hi hp)
      have HP := Lib.hid hp
      clear hp hbd
      go_enter Try.func74, Try.ntmps74
      go_wp2_with fail
      refine (spec_tvParent_any _ l i _ H.out (by omega) hi HG.out).mono ?_
      rintro e w1 ⟨rfl, F1⟩
      rw [HP.out]
      go_wp2_with fail
      refine (spec_tvLength_any _ l 0 i _ (H.out.ext F1) (by omega) (by omega) HC.out HG.out).mono ?_
      rintro e w2 ⟨rfl, F2⟩
      go_wp2
      go_ret
      exact ⟨by show Ending.returned (Value.int .i64 _) = _; simp [preSz], F1.trans F2⟩
    · obtain ⟨u, hu⟩ := Int.eq_ofNat_of_zero_le (show 0 ≤ parI l i by omega)
      obtain ⟨h1, h2, h3⟩ := par_some HG.out i u hi hu
      have HC := Lib.hid h2
      have HP := Lib.hid hu
      have hmu := preSz_mono HG.out 0 u (by omega) (by omega)
      rw [show preSz l 0 = 0 from rfl] at hmu
      obtain ⟨hmu0, hmu1⟩ := hmu
      have hmi := preSz_mono HG.out (u + 1) i (by omega) (by omega)
      obtain ⟨hmi0, hmi1⟩ := hmi
      have H3 := Lib.hid h3
      clear hp hbd hu h2 h3
      go_enter Try.func74, Try.ntmps74
      go_wp2_with fail
      refine (spec_tvParent_any _ l i _ H.out (by omega) hi HG.out).mono ?_
      rintro e w1 ⟨rfl, F1⟩
      rw [HP.out]
      go_wp2_with fail
      refine (IH.out u _ (by omega) (H.out.ext F1) (by omega)).mono ?_
      rintro e w2 ⟨rfl, F2⟩
      go_wp2_with fail
      rw [show ((u : Int) + 1) = ((u + 1 : Nat) : Int) by omega]
      refine (spec_tvLength_any _ l (u + 1) i _ (H.out.ext (F1.trans F2)) (by omega) (by omega) HC.out HG.out).mono ?_
      rintro e w3 ⟨rfl, F3⟩
      go_wp2
      go_ret
      refine ⟨?_, (F1.trans F2).trans F3⟩
      show Ending.returned (Value.int .i64 _) = _
      have := H3.out
      congr 2
      omega
theorem szB_parts {l : List Att} {i : Int} (h : szB l i = true) : goodB l = true ∧ 0 ≤ i ∧ i < l.length ∧ preSz l l.length ≤ 6000 ∧ hasB l i = true ∧ encB l = true := by
  simp only [szB, Bool.and_eq_true, decide_eq_true_eq] at h
  obtain ⟨h1, h2⟩ := h
  obtain ⟨a, b, c⟩ := hasB_parts h1
  exact ⟨a, b, c, h2, h1, by simp [encB, a, h2]⟩
theorem szB_not {l : List Att} {i : Int} (h : szB l i = false) : hasB l i = false ∨ (hasB l i = true ∧ goodB l = true ∧ encB l = false ∧ 6000 < preSz l l.length) := by
  cases hh : hasB l i
  · exact .inl rfl
  · right
    have hg := (hasB_parts hh).1
    simp [szB, hh] at h
    exact ⟨rfl, hg, by simp [encB, hg]; omega, by omega⟩
theorem spec_SizeOf_any (v : Value) (l : List Att) (i : Int) (w : World) (h : RdA w v l) (hl : l.length ≤ 1048576) :
    Calls Try.prog 32 #[v, .int .i64 i] w fun e w' => e = .returned (.tuple #[.int .i64 (szV l i), .bool (szB l i)]) ∧ Ext w w' := by
  have H := Lib.hid h
  obtain ⟨A, c, rfl, hc, _⟩ := h
  by_cases hs : szB l i = true
  · obtain ⟨hg, h0, h1, h2, h3, _⟩ := szB_parts hs
    obtain ⟨n, rfl⟩ := Int.eq_ofNat_of_zero_le h0
    have HV := Lib.hid (show szV l n = preSz l (endN l n) - preSz l n by simp [szV, hs])
    have HS := Lib.hid hs
    have HG := Lib.hid hg
    clear hs hg
    go_enter Try.func32, Try.ntmps32
    go_wp2_with fail
    refine (spec_tvHas_any _ l _ _ H.out hl).mono ?_
    rintro e w1 ⟨rfl, F1⟩
    rw [h3]
    go_wp2_with fail
    refine (spec_tvLength_any _ l 0 l.length _ (H.out.ext F1) (by omega) (by omega) (closed_all l) HG.out).mono ?_
    rintro e w2 ⟨rfl, F2⟩
    rw [show preSz l 0 = 0 from rfl, Int.sub_zero]
    go_wp2_with fail
    refine (spec_tvSize_any _ l n _ (H.out.ext (F1.trans F2)) (by omega) HG.out).mono ?_
    rintro e w3 ⟨rfl, F3⟩
    go_wp2
    go_ret2
    exact ⟨by rw [HV.out, HS.out]; rfl, (F1.trans F2).trans F3⟩
  · replace hs : szB l i = false := by simpa using hs
    have HV := Lib.hid (show szV l i = 0 by simp [szV, hs])
    have HS := Lib.hid hs
    rcases szB_not hs with h3 | ⟨h3, hg, _, h4⟩
    · clear hs
      go_enter Try.func32, Try.ntmps32
      go_wp2_with fail
      refine (spec_tvHas_any _ l _ _ H.out hl).mono ?_
      rintro e w1 ⟨rfl, F1⟩
      rw [h3]
      go_wp2
      go_ret2
      exact ⟨by rw [HV.out, HS.out]; rfl, F1⟩
    · have HG := Lib.hid hg
      clear hs hg
      go_enter Try.func32, Try.ntmps32
      go_wp2_with fail
      refine (spec_tvHas_any _ l _ _ H.out hl).mono ?_
      rintro e w1 ⟨rfl, F1⟩
      rw [h3]
      go_wp2_with fail
      refine (spec_tvLength_any _ l 0 l.length _ (H.out.ext F1) (by omega) (by omega) (closed_all l) HG.out).mono ?_
      rintro e w2 ⟨rfl, F2⟩
      rw [show preSz l 0 = 0 from rfl, Int.sub_zero]
      go_wp2
      go_ret2
      exact ⟨by rw [HV.out, HS.out]; rfl, F1.trans F2⟩

theorem impl_SizeOf_any (v : Value) (l : List Att) (i : Int) (w : World) (h : RdA w v l) (hl : l.length ≤ 1048576) :
    Calls Try.prog 33 #[v, .int .i64 i] w fun e w' => e = .returned (.tuple #[.int .i64 (szV l i), .bool (szB l i)]) ∧ Ext w w' := by
  have H := Lib.hid h
  clear h
  by_cases hs : szB l i = true
  · obtain ⟨hg, h0, h1, h2, h3, h4⟩ := szB_parts hs
    obtain ⟨n, rfl⟩ := Int.eq_ofNat_of_zero_le h0
    have HV := Lib.hid (show szV l n = preSz l (endN l n) - preSz l n by simp [szV, hs])
    have HS := Lib.hid hs
    have HG := Lib.hid hg
    clear hs hg
    go_enter Try.func33, Try.ntmps33
    go_wp2_with fail
    refine (impl_isAttrOf_any _ l _ _ H.out hl).mono ?_
    rintro e w1 ⟨rfl, F1⟩
    rw [h3]
    go_wp2_with fail
    refine (impl_encodable_any _ l _ (H.out.ext F1) hl).mono ?_
    rintro e w2 ⟨rfl, F2⟩
    rw [h4]
    go_wp2_with fail
    refine (impl_sizeOf_any _ l n _ (H.out.ext (F1.trans F2)) (by omega) HG.out).mono ?_
    rintro e w3 ⟨rfl, F3⟩
    go_wp2
    go_ret2
    exact ⟨by rw [HV.out, HS.out]; rfl, (F1.trans F2).trans F3⟩
  · replace hs : szB l i = false := by simpa using hs
    have HV := Lib.hid (show szV l i = 0 by simp [szV, hs])
    have HS := Lib.hid hs
    rcases szB_not hs with h3 | ⟨h3, hg, h4, _⟩
    · clear hs
      go_enter Try.func33, Try.ntmps33
      go_wp2_with fail
      refine (impl_isAttrOf_any _ l _ _ H.out hl).mono ?_
      rintro e w1 ⟨rfl, F1⟩
      rw [h3]
      go_wp2
      go_ret2
      exact ⟨by rw [HV.out, HS.out]; rfl, F1⟩
    · clear hs hg
      go_enter Try.func33, Try.ntmps33
      go_wp2_with fail
      refine (impl_isAttrOf_any _ l _ _ H.out hl).mono ?_
      rintro e w1 ⟨rfl, F1⟩
      rw [h3]
      go_wp2_with fail
      refine (impl_encodable_any _ l _ (H.out.ext F1) hl).mono ?_
      rintro e w2 ⟨rfl, F2⟩
      rw [h4]
      go_wp2
      go_ret2
      exact ⟨by rw [HV.out, HS.out]; rfl, F1.trans F2⟩
theorem spec_OffsetOf_any (v : Value) (l : List Att) (i : Int) (w : World) (h : RdA w v l) (hl : l.length ≤ 1048576) :
    Calls Try.prog 36 #[v, .int .i64 i] w fun e w' => e = .returned (.tuple #[.int .i64 (offV l i), .bool (szB l i)]) ∧ Ext w w' := by
  have H := Lib.hid h
  obtain ⟨A, c, rfl, hc, _⟩ := h
  by_cases hs : szB l i = true
  · obtain ⟨hg, h0, h1, h2, h3, _⟩ := szB_parts hs
    obtain ⟨n, rfl⟩ := Int.eq_ofNat_of_zero_le h0
    have HV := Lib.hid (show offV l n = preSz l n by simp [offV, hs])
    have HS := Lib.hid hs
    have HG := Lib.hid hg
    clear hs hg
    go_enter Try.func36, Try.ntmps36
    go_wp2_with fail
    refine (spec_tvHas_any _ l _ _ H.out hl).mono ?_
    rintro e w1 ⟨rfl, F1⟩
    rw [h3]
    go_wp2_with fail
    refine (spec_tvLength_any _ l 0 l.length _ (H.out.ext F1) (by omega) (by omega) (closed_all l) HG.out).mono ?_
    rintro e w2 ⟨rfl, F2⟩
    rw [show preSz l 0 = 0 from rfl, Int.sub_zero]
    go_wp2_with fail
    refine (spec_tvOffset_any _ l HG.out n n _ (Nat.le_refl _) (H.out.ext (F1.trans F2)) (by omega)).mono ?_
    rintro e w3 ⟨rfl, F3⟩
    go_wp2
    go_ret2
    exact ⟨by rw [HV.out, HS.out]; rfl, (F1.trans F2).trans F3⟩
  · replace hs : szB l i = false := by simpa using hs
    have HV := Lib.hid (show offV l i = 0 by simp [offV, hs])
    have HS := Lib.hid hs
    rcases szB_not hs with h3 | ⟨h3, hg, _, h4⟩
    · clear hs
      go_enter Try.func36, Try.ntmps36
      go_wp2_with fail
      refine (spec_tvHas_any _ l _ _ H.out hl).mono ?_
      rintro e w1 ⟨rfl, F1⟩
      rw [h3]
      go_wp2
      go_ret2
      exact ⟨by rw [HV.out, HS.out]; rfl, F1⟩
    · have HG := Lib.hid hg
      clear hs hg
      go_enter Try.func36, Try.ntmps36
      go_wp2_with fail
      refine (spec_tvHas_any _ l _ _ H.out hl).mono ?_
      rintro e w1 ⟨rfl, F1⟩
      rw [h3]
      go_wp2_with fail
      refine (spec_tvLength_any _ l 0 l.length _ (H.out.ext F1) (by omega) (by omega) (closed_all l) HG.out).mono ?_
      rintro e w2 ⟨rfl, F2⟩
      rw [show preSz l 0 = 0 from rfl, Int.sub_zero]
      go_wp2
      go_ret2
      exact ⟨by rw [HV.out, HS.out]; rfl, F1.trans F2⟩

theorem impl_OffsetOf_any (v : Value) (l : List Att) (i : Int) (w : World) (h : RdA w v l) (hl : l.length ≤ 1048576) :
    Calls Try.prog 37 #[v, .int .i64 i] w fun e w' => e = .returned (.tuple #[.int .i64 (offV l i), .bool (szB l i)]) ∧ Ext w w' := by
  have H := Lib.hid h
  by_cases hs : szB l i = true
  · obtain ⟨hg, h0, h1, h2, h3, h4⟩ := szB_parts hs
    obtain ⟨n, rfl⟩ := Int.eq_ofNat_of_zero_le h0
    have HV := Lib.hid (show offV l n = preSz l n by simp [offV, hs])
    have HS := Lib.hid hs
    have HG := Lib.hid hg
    obtain ⟨A, c, rfl, hc, hrd⟩ := h
    have HR := Lib.hid hrd
    clear hs hg hrd
    go_enter Try.func37, Try.ntmps37
    go_wp2_with fail
    refine (impl_isAttrOf_any _ l _ _ H.out hl).mono ?_
    rintro e w1 ⟨rfl, F1⟩
    rw [h3]
    go_wp2_with fail
    refine (impl_encodable_any _ l _ (H.out.ext F1) hl).mono ?_
    rintro e w2 ⟨rfl, F2⟩
    rw [h4]
    have E2 := F1.trans F2
    go_wp2
    go_loopw [7, 6] (fun t s wr => ∃ k : Nat, k ≤ n ∧ t = .int .i64 (k : Int) ∧ s = .int .i64 (preSz l k) ∧ Ext w wr) (fun t _ _ => n - (intOf t).toNat)
    case atStart => exact ⟨0, Nat.zero_le _, rfl, rfl, E2⟩
    case round =>
      obtain ⟨k, hk, rfl, rfl, hx⟩ := hrel
      by_cases hlt : k < n
      · have hkl : k < l.length := by omega
        obtain ⟨b, o, rfl, hb, hcell⟩ := HR.out k l[k] (List.getElem?_eq_getElem hkl)
        have hs := preSz_succ l k hkl
        have hbd := preSz_mono HG.out 0 k (by omega) (by omega)
        rw [show preSz l 0 = 0 from rfl] at hbd
        have hl4 := (good_get HG.out).1
        have hsb := sz_bd HG.out k hkl
        generalize l[k] = x at hcell hs hsb
        have c3 : wr.cell? ⟨b, o + k * 4 + 3, none⟩ = some (.string x.data) := by rw [Ext.cell hx hb]; exact hcell 3 _ rfl
        have HSS := Lib.hid hs
        obtain ⟨p0, p1⟩ := hbd
        have s0 : x.data.size ≤ 1000 := by unfold szA at hsb; omega
        clear hcell hs hsb
        go_wp2
        go_roundw
        case rel => exact ⟨k + 1, by omega, by go_num, by rw [HSS.out]; unfold szA; go_num, hx⟩
        case measure => simp [intOf]; omega
      · obtain rfl : k = n := by omega
        go_wp2
        go_ret2
        exact ⟨by rw [HV.out, HS.out]; rfl, hx⟩
  · replace hs : szB l i = false := by simpa using hs
    have HV := Lib.hid (show offV l i = 0 by simp [offV, hs])
    have HS := Lib.hid hs
    clear h
    rcases szB_not hs with h3 | ⟨h3, hg, h4, _⟩
    · clear hs
      go_enter Try.func37, Try.ntmps37
      go_wp2_with fail
      refine (impl_isAttrOf_any _ l _ _ H.out hl).mono ?_
      rintro e w1 ⟨rfl, F1⟩
      rw [h3]
      go_wp2
      go_ret2
      exact ⟨by rw [HV.out, HS.out]; rfl, F1⟩
    · clear hs hg
      go_enter Try.func37, Try.ntmps37
      go_wp2_with fail
      refine (impl_isAttrOf_any _ l _ _ H.out hl).mono ?_
      rintro e w1 ⟨rfl, F1⟩
      rw [h3]
      go_wp2_with fail
      refine (impl_encodable_any _ l _ (H.out.ext F1) hl).mono ?_
      rintro e w2 ⟨rfl, F2⟩
      rw [h4]
      go_wp2
      go_ret2
      exact ⟨by rw [HV.out, HS.out]; rfl, F1.trans F2⟩
end Go.Proofs.Ytifhjhgccknndaa
