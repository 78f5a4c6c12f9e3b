/- Sorting in place: two sorted runs merged. Printed by wip/tools/gen_sort.py. -/
import Derived.Test.YtbbenppmfmphfaaDoorSortR
import Derived.Deep.DeepCutAuto
namespace Go.Proofs.YtbbenppmfmphfaaDoor
open Go.RowKit
set_option maxRecDepth 20000
set_option maxHeartbeats 1000000
set_option linter.unusedSimpArgs false
set_option linter.unusedVariables false

theorem symAF_any (l : List Flt) (g cap N bs a m b : Nat) (w : World) (h : OwnF w bs (.slice (some ⟨g, 0, none⟩) N cap) l) (hm : m = a + 1) (hmb : m < b) (hb : b ≤ N) (hN : N ≤ 1048576) (hs : SrtOn (kF (fun x : Flt => x.prio) l) m b) :
    Calls Tryd.prog 93 #[(.slice (some ⟨g, 0, none⟩) N cap), .int .i64 (a : Int), .int .i64 (m : Int), .int .i64 (b : Int), .func (.func 54) #[] #[]] w (SrtAns (fun w' l' => OwnF w' bs (.slice (some ⟨g, 0, none⟩) N cap) l') (fun x : Flt => x.prio) l g a b w) := by
  have hl0 := Lib.hid (rowF_len h)
  have HO := Lib.hid h
  have HS := Lib.hid (show SrtOn (kF (fun x : Flt => x.prio) l) (a + 1) b from hm ▸ hs)
  have hm1 : m ≤ a + 1 := by omega
  have hm2 : a + 1 ≤ m := by omega
  have hma : (m : Int) - (a : Int) = 1 := by omega
  clear h hs hm
  go_enter Tryd.func93, Tryd.ntmps93
  go_wp2_with fail
  go_loopw [10, 11] (fun t u wr => ∃ i j : Nat, t = .int .i64 (i : Int) ∧ u = .int .i64 (j : Int) ∧ m ≤ i ∧ i ≤ j ∧ j ≤ b ∧ Hid (m < i → (kF (fun x : Flt => x.prio) l) (i - 1) ≤ (kF (fun x : Flt => x.prio) l) a) ∧ Hid (j < b → (kF (fun x : Flt => x.prio) l) a ≤ (kF (fun x : Flt => x.prio) l) j) ∧ Ext w wr) (fun t u _ => (intOf u).toNat - (intOf t).toNat)
  case atStart => exact ⟨m, b, rfl, rfl, Nat.le_refl _, by omega, Nat.le_refl _, Lib.hid (fun h => by omega), Lib.hid (fun h => by omega), Ext.refl _⟩
  case round =>
    obtain ⟨i, j, rfl, rfl, hai, hij, hjb, H1, H2, hx⟩ := hrel
    have hai' : a < i := by omega
    obtain ⟨w1, rfl⟩ : ∃ x : World, x = wr := ⟨_, rfl⟩
    by_cases hlt : i < j
    · have hltz : (i : Int) < (j : Int) := by omega
      obtain ⟨c, hc1⟩ : ∃ c : Nat, ((i : Int) + (j : Int)) / 2 = (c : Int) := ⟨(i + j) / 2, by omega⟩
      have hc2 : i ≤ c := by omega
      have hc3 : c < j := by omega
      obtain ⟨x, hxx⟩ : ∃ x, l[c]? = some x := ⟨_, List.getElem?_eq_getElem (by rw [hl0.out]; omega)⟩
      obtain ⟨y, hyy⟩ : ∃ y, l[a]? = some y := ⟨_, List.getElem?_eq_getElem (by rw [hl0.out]; omega)⟩
      have HKX := Lib.hid (show (kF (fun x : Flt => x.prio) l) c = x.prio by simp [kF, hxx])
      have HKY := Lib.hid (show (kF (fun x : Flt => x.prio) l) a = y.prio by simp [kF, hyy])
      have HXX := Lib.hid hxx
      have HYY := Lib.hid hyy
      clear hxx hyy
      have z1 : (c : Int) < (N : Int) := by omega
      have z2 : (a : Int) < (N : Int) := by omega
      go_wp2_with fail
      obtain ⟨⟨xc0, xc1, xc2, xc3, xc4⟩, ⟨xf0, xf1, xf2, xf3, xf4⟩, xg⟩ := rowF (Own.ext HO.out hx) c x HXX.out
      obtain ⟨⟨yc0, yc1, yc2, yc3, yc4⟩, ⟨yf0, yf1, yf2, yf3, yf4⟩, yg⟩ := rowF (Own.ext HO.out hx) a y HYY.out
      by_cases hk : x.prio < y.prio
      · have hc := cmpI_neg.2 hk
        (go_wp2_with fail; refine wp_region_ext (by kernel_rfl) (by kernel_rfl) ?_; (repeat (first | go_big_quiet_step ((first | (go_at_call 54; exact calls_later (cmpF_any x y _)))) | quiet_step ((first | (go_at_call 54; exact calls_later (cmpF_any x y _)))))); refine wpQuiet_nil ?_; intro wq hbq)
        clear xc0 xc1 xc2 xc3 xc4 xf0 xf1 xf2 xf3 xf4 xg
        clear yc0 yc1 yc2 yc3 yc4 yf0 yf1 yf2 yf3 yf4 yg
        go_wp2_with fail
        go_roundw
        case rel => exact ⟨c + 1, j, by go_num, rfl, by omega, by omega, hjb, Lib.hid (fun _ => by rw [Nat.add_sub_cancel, HKX.out, HKY.out]; omega), H2, hx.trans hbq⟩
        case measure => (simp [intOf]; try omega)
      · have hc : ¬ cmpI x.prio y.prio < 0 := fun h => hk (cmpI_neg.1 h)
        (go_wp2_with fail; refine wp_region_ext (by kernel_rfl) (by kernel_rfl) ?_; (repeat (first | go_big_quiet_step ((first | (go_at_call 54; exact calls_later (cmpF_any x y _)))) | quiet_step ((first | (go_at_call 54; exact calls_later (cmpF_any x y _)))))); refine wpQuiet_nil ?_; intro wq hbq)
        clear xc0 xc1 xc2 xc3 xc4 xf0 xf1 xf2 xf3 xf4 xg
        clear yc0 yc1 yc2 yc3 yc4 yf0 yf1 yf2 yf3 yf4 yg
        go_wp2_with fail
        go_roundw
        case rel => exact ⟨i, c, rfl, rfl, hai, hc2, by omega, H1, Lib.hid (fun _ => by rw [HKX.out, HKY.out]; omega), hx.trans hbq⟩
        case measure => (simp [intOf]; try omega)
    · obtain rfl : i = j := by omega
      have HX1 := Lib.hid hx
      go_wp2_with fail
      go_loopw [13] (fun t wr => ∃ k : Nat, t = .int .i64 (k : Int) ∧ a ≤ k ∧ k ≤ i - 1 ∧ ∃ cur, Hid (OwnF wr bs (.slice (some ⟨g, 0, none⟩) N cap) cur) ∧ Hid (cur.Perm l) ∧ Hid (Up l cur a k) ∧ Hid (KB (fun k => k = g) w wr)) (fun t _ => i - (intOf t).toNat)
      case atStart => exact ⟨a, rfl, Nat.le_refl _, by omega, l, HO.out.ext hx, List.Perm.refl _, Up.start l a, KB.ext (KB.refl _ _) hx⟩
      case round =>
        obtain ⟨k, rfl, hak, hki, cur, HO1, HP, HU, HK⟩ := hrel
        have hl1 := Lib.hid (rowF_len HO1.out)
        by_cases hkl : k < i - 1
        · have hklz : (k : Int) < (i : Int) - 1 := by omega
          have e0 : ((k : Int) + 1).toNat = k + 1 := by omega
          have p0 : (0 : Int) ≤ (k : Int) + 1 := by omega
          have z1 : (k : Int) + 1 < (N : Int) := by omega
          have z2 : (k : Int) < (N : Int) := by omega
          obtain ⟨v1, hv1⟩ : ∃ v1, v1 = k + 1 := ⟨_, rfl⟩
          obtain ⟨v, hv⟩ : ∃ v, v = k := ⟨_, rfl⟩
          rw [← hv1] at e0
          obtain ⟨x, hx'⟩ : ∃ x, cur[v]? = some x := ⟨_, List.getElem?_eq_getElem (by rw [hl1.out]; omega)⟩
          obtain ⟨y, hy'⟩ : ∃ y, cur[v1]? = some y := ⟨_, List.getElem?_eq_getElem (by rw [hl1.out]; omega)⟩
          subst hv
          have V1 := Lib.hid hv1
          have HX := Lib.hid hx'
          have HY := Lib.hid hy'
          clear hv1 hx' hy'
          obtain ⟨⟨xc0, xc1, xc2, xc3, xc4⟩, ⟨xf0, xf1, xf2, xf3, xf4⟩, xg⟩ := rowF HO1.out v x HX.out
          obtain ⟨⟨yc0, yc1, yc2, yc3, yc4⟩, ⟨yf0, yf1, yf2, yf3, yf4⟩, yg⟩ := rowF HO1.out v1 y HY.out
          go_wp2_with fail
          go_big_region
          all_goals
            go_wp2_with fail
            go_roundw
            case rel =>
              refine ⟨v + 1, by go_num, by omega, by omega, swp cur v v1, Own.ext (swapRowF HO1.out v v1 x y HX.out HY.out) (Ext.refl _).drew, ?_, ?_, ?_⟩
              · rw [V1.out]
                exact (swp_perm cur v (v + 1) (by rw [hl1.out]; omega) (by rw [hl1.out]; omega)).trans HP.out
              · rw [V1.out]
                exact HU.out.step hak (by rw [hl1.out]; omega)
              · refine KB.ext ?_ (Ext.refl _).drew
                repeat (with_reducible refine KB.set ?_ _ _)
                exact HK.out
            case measure => (simp [intOf]; try omega)
        · obtain rfl : k = i - 1 := by omega
          have hklz : ¬ ((i - 1 : Nat) : Int) < (i : Int) - 1 := by omega
          go_wp2_with fail
          go_end0
          exact ⟨rfl, cur, HO1.out, Mrg.up HU.out HP.out HS.out (by omega) hjb (fun h => H1.out (by omega)) H2.out, HK.out⟩
theorem symBF_any (l : List Flt) (g cap N bs a m b : Nat) (w : World) (h : OwnF w bs (.slice (some ⟨g, 0, none⟩) N cap) l) (hm : b = m + 1) (ham : a + 1 < m) (hb : b ≤ N) (hN : N ≤ 1048576) (hs : SrtOn (kF (fun x : Flt => x.prio) l) a m) :
    Calls Tryd.prog 93 #[(.slice (some ⟨g, 0, none⟩) N cap), .int .i64 (a : Int), .int .i64 (m : Int), .int .i64 (b : Int), .func (.func 54) #[] #[]] w (SrtAns (fun w' l' => OwnF w' bs (.slice (some ⟨g, 0, none⟩) N cap) l') (fun x : Flt => x.prio) l g a b w) := by
  have hl0 := Lib.hid (rowF_len h)
  have HO := Lib.hid h
  have HS := Lib.hid hs
  have HB := Lib.hid hm
  have hm1 : b ≤ m + 1 := by omega
  have hm2 : m + 1 ≤ b := by omega
  have hbm : (b : Int) - (m : Int) = 1 := by omega
  obtain ⟨d, hd⟩ : ∃ d : Nat, (m : Int) - (a : Int) = (d : Int) := ⟨m - a, by omega⟩
  have hd1 : ((d : Int) == 1) = false := by simp; omega
  clear h hs hm
  go_enter Tryd.func93, Tryd.ntmps93
  go_wp2_with fail
  go_loopw [14, 15] (fun t u wr => ∃ i j : Nat, t = .int .i64 (i : Int) ∧ u = .int .i64 (j : Int) ∧ a ≤ i ∧ i ≤ j ∧ j ≤ m ∧ Hid (a < i → (kF (fun x : Flt => x.prio) l) (i - 1) ≤ (kF (fun x : Flt => x.prio) l) m) ∧ Hid (j < m → (kF (fun x : Flt => x.prio) l) m ≤ (kF (fun x : Flt => x.prio) l) j) ∧ Ext w wr) (fun t u _ => (intOf u).toNat - (intOf t).toNat)
  case atStart => exact ⟨a, m, rfl, rfl, Nat.le_refl _, by omega, Nat.le_refl _, Lib.hid (fun h => by omega), Lib.hid (fun h => by omega), Ext.refl _⟩
  case round =>
    obtain ⟨i, j, rfl, rfl, hai, hij, hjb, H1, H2, hx⟩ := hrel
    obtain ⟨w1, rfl⟩ : ∃ x : World, x = wr := ⟨_, rfl⟩
    by_cases hlt : i < j
    · have hltz : (i : Int) < (j : Int) := by omega
      obtain ⟨c, hc1⟩ : ∃ c : Nat, ((i : Int) + (j : Int)) / 2 = (c : Int) := ⟨(i + j) / 2, by omega⟩
      have hc2 : i ≤ c := by omega
      have hc3 : c < j := by omega
      obtain ⟨x, hxx⟩ : ∃ x, l[m]? = some x := ⟨_, List.getElem?_eq_getElem (by rw [hl0.out]; omega)⟩
      obtain ⟨y, hyy⟩ : ∃ y, l[c]? = some y := ⟨_, List.getElem?_eq_getElem (by rw [hl0.out]; omega)⟩
      have HKX := Lib.hid (show (kF (fun x : Flt => x.prio) l) m = x.prio by simp [kF, hxx])
      have HKY := Lib.hid (show (kF (fun x : Flt => x.prio) l) c = y.prio by simp [kF, hyy])
      have HXX := Lib.hid hxx
      have HYY := Lib.hid hyy
      clear hxx hyy
      have z1 : (c : Int) < (N : Int) := by omega
      have z2 : (m : Int) < (N : Int) := by omega
      go_wp2_with fail
      obtain ⟨⟨xc0, xc1, xc2, xc3, xc4⟩, ⟨xf0, xf1, xf2, xf3, xf4⟩, xg⟩ := rowF (Own.ext HO.out hx) m x HXX.out
      obtain ⟨⟨yc0, yc1, yc2, yc3, yc4⟩, ⟨yf0, yf1, yf2, yf3, yf4⟩, yg⟩ := rowF (Own.ext HO.out hx) c y HYY.out
      by_cases hk : x.prio < y.prio
      · have hc := cmpI_neg.2 hk
        (go_wp2_with fail; refine wp_region_ext (by kernel_rfl) (by kernel_rfl) ?_; (repeat (first | go_big_quiet_step ((first | (go_at_call 54; exact calls_later (cmpF_any x y _)))) | quiet_step ((first | (go_at_call 54; exact calls_later (cmpF_any x y _)))))); refine wpQuiet_nil ?_; intro wq hbq)
        clear xc0 xc1 xc2 xc3 xc4 xf0 xf1 xf2 xf3 xf4 xg
        clear yc0 yc1 yc2 yc3 yc4 yf0 yf1 yf2 yf3 yf4 yg
        go_wp2_with fail
        go_roundw
        case rel => exact ⟨i, c, rfl, rfl, hai, hc2, by omega, H1, Lib.hid (fun _ => by rw [HKX.out, HKY.out]; omega), hx.trans hbq⟩
        case measure => (simp [intOf]; try omega)
      · have hc : ¬ cmpI x.prio y.prio < 0 := fun h => hk (cmpI_neg.1 h)
        have hcb : decide (cmpI x.prio y.prio < 0) = false := decide_eq_false hc
        (go_wp2_with fail; refine wp_region_ext (by kernel_rfl) (by kernel_rfl) ?_; (repeat (first | go_big_quiet_step ((first | (go_at_call 54; exact calls_later (cmpF_any x y _)))) | quiet_step ((first | (go_at_call 54; exact calls_later (cmpF_any x y _)))))); refine wpQuiet_nil ?_; intro wq hbq)
        clear xc0 xc1 xc2 xc3 xc4 xf0 xf1 xf2 xf3 xf4 xg
        clear yc0 yc1 yc2 yc3 yc4 yf0 yf1 yf2 yf3 yf4 yg
        go_wp2_with fail
        go_roundw
        case rel => exact ⟨c + 1, j, by go_num, rfl, by omega, by omega, hjb, Lib.hid (fun _ => by rw [Nat.add_sub_cancel, HKX.out, HKY.out]; omega), H2, hx.trans hbq⟩
        case measure => (simp [intOf]; try omega)
    · obtain rfl : i = j := by omega
      go_wp2_with fail
      go_loopw [17] (fun t wr => ∃ k : Nat, t = .int .i64 (k : Int) ∧ i ≤ k ∧ k ≤ m ∧ ∃ cur, Hid (OwnF wr bs (.slice (some ⟨g, 0, none⟩) N cap) cur) ∧ Hid (cur.Perm l) ∧ Hid (Dn l cur m k) ∧ Hid (KB (fun k => k = g) w wr)) (fun t _ => (intOf t).toNat)
      case atStart => exact ⟨m, rfl, hjb, Nat.le_refl _, l, HO.out.ext hx, List.Perm.refl _, Dn.start l m, KB.ext (KB.refl _ _) hx⟩
      case round =>
        obtain ⟨k, rfl, hik, hkm, cur, HO1, HP, HU, HK⟩ := hrel
        have hl1 := Lib.hid (rowF_len HO1.out)
        by_cases hkl : i < k
        · obtain ⟨v1, rfl⟩ : ∃ v1, k = v1 + 1 := ⟨k - 1, by omega⟩
          have hklz : (i : Int) < (v1 : Int) + 1 := by omega
          have e0 : ((v1 : Int) + 1).toNat = v1 + 1 := by omega
          have p0 : (0 : Int) ≤ (v1 : Int) + 1 := by omega
          have z1 : (v1 : Int) + 1 < (N : Int) := by omega
          have z2 : (v1 : Int) < (N : Int) := by omega
          have hwp : IntKind.i64.wrap (v1 : Int) = (v1 : Int) := by rw [IntKind.wrap_i64]; omega
          obtain ⟨v, hv⟩ : ∃ v, v = v1 + 1 := ⟨_, rfl⟩
          rw [← hv] at e0
          obtain ⟨x, hx'⟩ : ∃ x, cur[v]? = some x := ⟨_, List.getElem?_eq_getElem (by rw [hl1.out]; omega)⟩
          obtain ⟨y, hy'⟩ : ∃ y, cur[v1]? = some y := ⟨_, List.getElem?_eq_getElem (by rw [hl1.out]; omega)⟩
          have V1 := Lib.hid hv
          have HX := Lib.hid hx'
          have HY := Lib.hid hy'
          clear hv hx' hy'
          obtain ⟨⟨xc0, xc1, xc2, xc3, xc4⟩, ⟨xf0, xf1, xf2, xf3, xf4⟩, xg⟩ := rowF HO1.out v x HX.out
          obtain ⟨⟨yc0, yc1, yc2, yc3, yc4⟩, ⟨yf0, yf1, yf2, yf3, yf4⟩, yg⟩ := rowF HO1.out v1 y HY.out
          go_wp2_with fail
          go_big_region
          all_goals
            go_wp2_with fail
            go_roundw
            case rel =>
              refine ⟨v1, rfl, by omega, by omega, swp cur v v1, Own.ext (swapRowF HO1.out v v1 x y HX.out HY.out) (Ext.refl _).drew, ?_, ?_, ?_⟩
              · rw [V1.out]
                exact (swp_perm cur (v1 + 1) v1 (by rw [hl1.out]; omega) (by rw [hl1.out]; omega)).trans HP.out
              · rw [V1.out]
                have := HU.out.step hkm (by omega) (by rw [hl1.out]; omega)
                rwa [Nat.add_sub_cancel] at this
              · refine KB.ext ?_ (Ext.refl _).drew
                repeat (with_reducible refine KB.set ?_ _ _)
                exact HK.out
            case measure => (simp [intOf]; try omega)
        · obtain rfl : k = i := by omega
          have hklz : ¬ (k : Int) < (k : Int) := by omega
          go_wp2_with fail
          go_end0
          exact ⟨rfl, cur, HO1.out, by rw [HB.out]; exact Mrg.dn HU.out HP.out HS.out hai hjb H1.out H2.out, HK.out⟩
/-- What merging runs that are shorter in all leaves. -/
def HypF (g cap N bs n : Nat) : Prop := ∀ (l : List Flt) (a m b : Nat) (w : World), b - a < n → a < m → m < b → b ≤ N → OwnF w bs (.slice (some ⟨g, 0, none⟩) N cap) l → SrtOn (kF (fun x : Flt => x.prio) l) a m → SrtOn (kF (fun x : Flt => x.prio) l) m b →
    Calls Tryd.prog 93 #[(.slice (some ⟨g, 0, none⟩) N cap), .int .i64 (a : Int), .int .i64 (m : Int), .int .i64 (b : Int), .func (.func 54) #[] #[]] w (SrtAns (fun w' l' => OwnF w' bs (.slice (some ⟨g, 0, none⟩) N cap) l') (fun x : Flt => x.prio) l g a b w)
theorem symCF_any (l : List Flt) (g cap N bs a m b : Nat) (w : World) (h : OwnF w bs (.slice (some ⟨g, 0, none⟩) N cap) l) (ham : a + 1 < m) (hmb : m + 1 < b) (hb : b ≤ N) (hN : N ≤ 1048576) (hs1 : SrtOn (kF (fun x : Flt => x.prio) l) a m) (hs2 : SrtOn (kF (fun x : Flt => x.prio) l) m b) (hyp : HypF g cap N bs (b - a)) :
    Calls Tryd.prog 93 #[(.slice (some ⟨g, 0, none⟩) N cap), .int .i64 (a : Int), .int .i64 (m : Int), .int .i64 (b : Int), .func (.func 54) #[] #[]] w (SrtAns (fun w' l' => OwnF w' bs (.slice (some ⟨g, 0, none⟩) N cap) l') (fun x : Flt => x.prio) l g a b w) := by
  have hl0 := Lib.hid (rowF_len h)
  have HO := Lib.hid h
  have HS1 := Lib.hid hs1
  have HS2 := Lib.hid hs2
  have IH := Lib.hid hyp
  obtain ⟨d, hd⟩ : ∃ d : Nat, (m : Int) - (a : Int) = (d : Int) := ⟨m - a, by omega⟩
  have hd1 : ((d : Int) == 1) = false := by simp; omega
  obtain ⟨d', hd'⟩ : ∃ d : Nat, (b : Int) - (m : Int) = (d : Int) := ⟨b - m, by omega⟩
  have hd2 : ((d' : Int) == 1) = false := by simp; omega
  obtain ⟨mid, hmid⟩ : ∃ c : Nat, ((a : Int) + (b : Int)) / 2 = (c : Int) := ⟨(a + b) / 2, by omega⟩
  have HMID := Lib.hid (show mid = (a + b) / 2 by omega)
  have hmid1 : a ≤ mid := by omega
  have hmid2 : mid < b := by omega
  have hmid3 : 2 * mid ≤ a + b := by omega
  have hmid4 : a + b ≤ 2 * mid + 1 := by omega
  obtain ⟨n, hn⟩ : ∃ c : Nat, (mid : Int) + (m : Int) = (c : Int) := ⟨mid + m, by omega⟩
  have hn1 : n ≤ mid + m := by omega
  have hn2 : mid + m ≤ n := by omega
  obtain ⟨pp, hpp⟩ : ∃ c : Nat, (n : Int) - 1 = (c : Int) := ⟨n - 1, by omega⟩
  have hpp1 : pp + 1 ≤ n := by omega
  have hpp2 : n ≤ pp + 1 := by omega
  clear h hs1 hs2 hyp
  go_enter Tryd.func93, Tryd.ntmps93
  go_upto_if 140 with fail
  go_cut [20, 21] (fun s r wx => ∃ s0 r0 : Nat, s = .int .i64 (s0 : Int) ∧ r = .int .i64 (r0 : Int) ∧ a ≤ s0 ∧ s0 ≤ r0 ∧ r0 ≤ m ∧ r0 ≤ mid ∧ n ≤ s0 + b ∧ m + r0 ≤ n ∧ (s0 = a ∨ s0 + b = n) ∧ (r0 = m ∨ r0 + m = n) ∧ w = wx)
  case first =>
    by_cases hgt : mid < m
    · obtain ⟨s0, hs0⟩ : ∃ c : Nat, (n : Int) - (b : Int) = (c : Int) := ⟨n - b, by omega⟩
      go_wp2_with fail
      go_meet
      exact ⟨s0, mid, rfl, rfl, by omega, by omega, by omega, by omega, by omega, by omega, by omega, by omega, rfl⟩
    · go_wp2_with fail
      go_meet
      exact ⟨a, m, rfl, rfl, by omega, by omega, by omega, by omega, by omega, by omega, by omega, by omega, rfl⟩
  case rest =>
    obtain ⟨s0, r0, rfl, rfl, hs0, hsr, hrm, hrmid, hnb, hmr, hs00, hr00, rfl⟩ := hcut
    go_wp2_with fail
    go_loopw [20, 21] (fun t u wr => ∃ i j : Nat, t = .int .i64 (i : Int) ∧ u = .int .i64 (j : Int) ∧ s0 ≤ i ∧ i ≤ j ∧ j ≤ r0 ∧ Hid (s0 < i → (kF (fun x : Flt => x.prio) l) (i - 1) ≤ (kF (fun x : Flt => x.prio) l) (n - i)) ∧ Hid (j < r0 → (kF (fun x : Flt => x.prio) l) (n - 1 - j) ≤ (kF (fun x : Flt => x.prio) l) j) ∧ Ext w wr) (fun t u _ => (intOf u).toNat - (intOf t).toNat)
    case atStart => exact ⟨s0, r0, rfl, rfl, Nat.le_refl _, hsr, Nat.le_refl _, Lib.hid (fun h => by omega), Lib.hid (fun h => by omega), Ext.refl _⟩
    case round =>
      obtain ⟨i, j, rfl, rfl, hai, hij, hjb, H1, H2, hx⟩ := hrel
      obtain ⟨w1, rfl⟩ : ∃ x : World, x = wr := ⟨_, rfl⟩
      by_cases hlt : i < j
      · have hltz : (i : Int) < (j : Int) := by omega
        obtain ⟨c, hc1⟩ : ∃ c : Nat, ((i : Int) + (j : Int)) / 2 = (c : Int) := ⟨(i + j) / 2, by omega⟩
        have hc2 : i ≤ c := by omega
        have hc3 : c < j := by omega
        obtain ⟨pc, hpc⟩ : ∃ e : Nat, (pp : Int) - (c : Int) = (e : Int) := ⟨pp - c, by omega⟩
        have HPC := Lib.hid (show pc = n - 1 - c by omega)
        obtain ⟨x, hxx⟩ : ∃ x, l[pc]? = some x := ⟨_, List.getElem?_eq_getElem (by rw [hl0.out]; omega)⟩
        obtain ⟨y, hyy⟩ : ∃ y, l[c]? = some y := ⟨_, List.getElem?_eq_getElem (by rw [hl0.out]; omega)⟩
        have HKX := Lib.hid (show (kF (fun x : Flt => x.prio) l) pc = x.prio by simp [kF, hxx])
        have HKY := Lib.hid (show (kF (fun x : Flt => x.prio) l) c = y.prio by simp [kF, hyy])
        have HXX := Lib.hid hxx
        have HYY := Lib.hid hyy
        clear hxx hyy
        have z1 : (c : Int) < (N : Int) := by omega
        have z2 : (pc : Int) < (N : Int) := by omega
        have hw1 : IntKind.i64.wrap (pc : Int) = (pc : Int) := by rw [IntKind.wrap_i64]; omega
        go_wp2_with fail
        obtain ⟨⟨xc0, xc1, xc2, xc3, xc4⟩, ⟨xf0, xf1, xf2, xf3, xf4⟩, xg⟩ := rowF (Own.ext HO.out hx) pc x HXX.out
        obtain ⟨⟨yc0, yc1, yc2, yc3, yc4⟩, ⟨yf0, yf1, yf2, yf3, yf4⟩, yg⟩ := rowF (Own.ext HO.out hx) c y HYY.out
        by_cases hk : x.prio < y.prio
        · have hc := cmpI_neg.2 hk
          (go_wp2_with fail; refine wp_region_ext (by kernel_rfl) (by kernel_rfl) ?_; (repeat (first | go_big_quiet_step ((first | (go_at_call 54; exact calls_later (cmpF_any x y _)))) | quiet_step ((first | (go_at_call 54; exact calls_later (cmpF_any x y _)))))); refine wpQuiet_nil ?_; intro wq hbq)
          clear xc0 xc1 xc2 xc3 xc4 xf0 xf1 xf2 xf3 xf4 xg
          clear yc0 yc1 yc2 yc3 yc4 yf0 yf1 yf2 yf3 yf4 yg
          go_wp2_with fail
          go_roundw
          case rel => exact ⟨i, c, rfl, rfl, hai, hc2, by omega, H1, Lib.hid (fun _ => by rw [← HPC.out, HKX.out, HKY.out]; omega), hx.trans hbq⟩
          case measure => (simp [intOf]; try omega)
        · have hc : ¬ cmpI x.prio y.prio < 0 := fun h => hk (cmpI_neg.1 h)
          have hcb : decide (cmpI x.prio y.prio < 0) = false := decide_eq_false hc
          (go_wp2_with fail; refine wp_region_ext (by kernel_rfl) (by kernel_rfl) ?_; (repeat (first | go_big_quiet_step ((first | (go_at_call 54; exact calls_later (cmpF_any x y _)))) | quiet_step ((first | (go_at_call 54; exact calls_later (cmpF_any x y _)))))); refine wpQuiet_nil ?_; intro wq hbq)
          clear xc0 xc1 xc2 xc3 xc4 xf0 xf1 xf2 xf3 xf4 xg
          clear yc0 yc1 yc2 yc3 yc4 yf0 yf1 yf2 yf3 yf4 yg
          go_wp2_with fail
          go_roundw
          case rel => exact ⟨c + 1, j, by go_num, rfl, by omega, by omega, hjb, Lib.hid (fun _ => by rw [Nat.add_sub_cancel, show n - (c + 1) = pc by rw [HPC.out]; omega, HKX.out, HKY.out]; omega), H2, hx.trans hbq⟩
          case measure => (simp [intOf]; try omega)
      · obtain rfl : i = j := by omega
        obtain ⟨en, hen⟩ : ∃ c : Nat, (n : Int) - (i : Int) = (c : Int) := ⟨n - i, by omega⟩
        have hE := Lib.hid (show i + en = mid + m by omega)
        have hE1 : i + en ≤ mid + m := by omega
        have hE2 : mid + m ≤ i + en := by omega
        have hme : m ≤ en := by omega
        have heb : en ≤ b := by omega
        have him : i ≤ m := by omega
        have hai' : a ≤ i := by omega
        have himid : i ≤ mid := by omega
        have HB1 := Lib.hid (show a < i → en < b → (kF (fun x : Flt => x.prio) l) (i - 1) ≤ (kF (fun x : Flt => x.prio) l) en from fun p1 p2 => by
          have := H1.out (by omega)
          rwa [show n - i = en by omega] at this)
        have HB2 := Lib.hid (show i < m → m < en → (kF (fun x : Flt => x.prio) l) (en - 1) ≤ (kF (fun x : Flt => x.prio) l) i from fun p1 p2 => by
          have := H2.out (by omega)
          rwa [show n - 1 - i = en - 1 by omega] at this)
        have HW1 := Lib.hid (HO.out.ext hx)
        have HKW := Lib.hid (KB.ext (KB.refl w (fun k => k = g)) hx)
        clear H1 H2 hlt
        rcases (show (i < m ∧ m < en) ∨ (i < m ∧ ¬ m < en) ∨ ¬ i < m by omega) with ⟨r1, r2⟩ | ⟨r1, r2⟩ | r1
        · go_wp2_with fail
          refine (rotF_any l g cap N bs i m en _ HW1.out r1 r2 (by omega) hN).mono ?_
          rintro e w2 ⟨rfl, l1, O1, p1, t1, k1⟩
          have HL1 := Lib.hid O1
          have HP1 := Lib.hid p1
          have HT1 := Lib.hid t1
          have HK1 := Lib.hid (HKW.out.same k1)
          clear O1 p1 t1 k1
          have RR := Lib.hid (rot_runs hai' him hme heb hE.out HS1.out HS2.out HT1.out)
          rcases (show (a < i ∧ i < mid) ∨ (a < i ∧ ¬ i < mid) ∨ ¬ a < i by omega) with ⟨q1, q2⟩ | ⟨q1, q2⟩ | q1
          · go_wp2_with fail
            refine (IH.out l1 a i mid _ (by omega) q1 q2 (by omega) HL1.out RR.out.1 RR.out.2.1).mono ?_
            rintro e w3 ⟨rfl, l2, O2, M2, k2⟩
            have HL2 := Lib.hid O2
            have HM2 := Lib.hid M2
            have HK2 := Lib.hid (HK1.out.same k2)
            clear O2 M2 k2
            have R3 := Lib.hid (show SrtOn (kF (fun x : Flt => x.prio) l2) mid en from srt_out HM2.out.2.2.1 (Nat.le_refl _) RR.out.2.2.1)
            have R4 := Lib.hid (show SrtOn (kF (fun x : Flt => x.prio) l2) en b from srt_out HM2.out.2.2.1 (by omega) RR.out.2.2.2)
            rcases (show (mid < en ∧ en < b) ∨ (mid < en ∧ ¬ en < b) ∨ ¬ mid < en by omega) with ⟨c1, c2⟩ | ⟨c1, c2⟩ | c1
            · go_wp2_with fail
              refine (IH.out l2 mid en b _ (by omega) c1 c2 hb HL2.out R3.out R4.out).mono ?_
              rintro e w4 ⟨rfl, l3, O3, M3, k3⟩
              have HL3 := Lib.hid O3
              have HM3 := Lib.hid M3
              have HK3 := Lib.hid (HK2.out.same k3)
              clear O3 M3 k3
              go_wp2_with fail
              go_end0
              exact ⟨rfl, l3, HL3.out, Mrg.halves (st := i) (en := en) (mid := mid) (m := m) (by omega) (by omega) HMID.out hai' him hme heb hE.out HS1.out HS2.out HB1.out HB2.out HT1.out HP1.out HM2.out HM3.out, HK3.out⟩
            · obtain ⟨l3, HL3, HM3, HK3⟩ : ∃ l3, Hid (OwnF _ bs (.slice (some ⟨g, 0, none⟩) N cap) l3) ∧ Hid (Mrg (fun x : Flt => x.prio) l2 l3 mid b) ∧ Hid (KB (fun k => k = g) w _) := ⟨l2, HL2, Mrg.same (by rw [show b = en by omega]; exact R3.out), HK2⟩
              go_wp2_with fail
              go_end0
              exact ⟨rfl, l3, HL3.out, Mrg.halves (st := i) (en := en) (mid := mid) (m := m) (by omega) (by omega) HMID.out hai' him hme heb hE.out HS1.out HS2.out HB1.out HB2.out HT1.out HP1.out HM2.out HM3.out, HK3.out⟩
            · obtain ⟨l3, HL3, HM3, HK3⟩ : ∃ l3, Hid (OwnF _ bs (.slice (some ⟨g, 0, none⟩) N cap) l3) ∧ Hid (Mrg (fun x : Flt => x.prio) l2 l3 mid b) ∧ Hid (KB (fun k => k = g) w _) := ⟨l2, HL2, Mrg.same (by rw [show mid = en by omega]; exact R4.out), HK2⟩
              go_wp2_with fail
              go_end0
              exact ⟨rfl, l3, HL3.out, Mrg.halves (st := i) (en := en) (mid := mid) (m := m) (by omega) (by omega) HMID.out hai' him hme heb hE.out HS1.out HS2.out HB1.out HB2.out HT1.out HP1.out HM2.out HM3.out, HK3.out⟩
          · obtain ⟨l2, HL2, HM2, HK2⟩ : ∃ l2, Hid (OwnF _ bs (.slice (some ⟨g, 0, none⟩) N cap) l2) ∧ Hid (Mrg (fun x : Flt => x.prio) l1 l2 a mid) ∧ Hid (KB (fun k => k = g) w _) := ⟨l1, HL1, Mrg.same (by rw [show mid = i by omega]; exact RR.out.1), HK1⟩
            have R3 := Lib.hid (show SrtOn (kF (fun x : Flt => x.prio) l2) mid en from srt_out HM2.out.2.2.1 (Nat.le_refl _) RR.out.2.2.1)
            have R4 := Lib.hid (show SrtOn (kF (fun x : Flt => x.prio) l2) en b from srt_out HM2.out.2.2.1 (by omega) RR.out.2.2.2)
            rcases (show (mid < en ∧ en < b) ∨ (mid < en ∧ ¬ en < b) ∨ ¬ mid < en by omega) with ⟨c1, c2⟩ | ⟨c1, c2⟩ | c1
            · go_wp2_with fail
              refine (IH.out l2 mid en b _ (by omega) c1 c2 hb HL2.out R3.out R4.out).mono ?_
              rintro e w4 ⟨rfl, l3, O3, M3, k3⟩
              have HL3 := Lib.hid O3
              have HM3 := Lib.hid M3
              have HK3 := Lib.hid (HK2.out.same k3)
              clear O3 M3 k3
              go_wp2_with fail
              go_end0
              exact ⟨rfl, l3, HL3.out, Mrg.halves (st := i) (en := en) (mid := mid) (m := m) (by omega) (by omega) HMID.out hai' him hme heb hE.out HS1.out HS2.out HB1.out HB2.out HT1.out HP1.out HM2.out HM3.out, HK3.out⟩
            · obtain ⟨l3, HL3, HM3, HK3⟩ : ∃ l3, Hid (OwnF _ bs (.slice (some ⟨g, 0, none⟩) N cap) l3) ∧ Hid (Mrg (fun x : Flt => x.prio) l2 l3 mid b) ∧ Hid (KB (fun k => k = g) w _) := ⟨l2, HL2, Mrg.same (by rw [show b = en by omega]; exact R3.out), HK2⟩
              go_wp2_with fail
              go_end0
              exact ⟨rfl, l3, HL3.out, Mrg.halves (st := i) (en := en) (mid := mid) (m := m) (by omega) (by omega) HMID.out hai' him hme heb hE.out HS1.out HS2.out HB1.out HB2.out HT1.out HP1.out HM2.out HM3.out, HK3.out⟩
            · obtain ⟨l3, HL3, HM3, HK3⟩ : ∃ l3, Hid (OwnF _ bs (.slice (some ⟨g, 0, none⟩) N cap) l3) ∧ Hid (Mrg (fun x : Flt => x.prio) l2 l3 mid b) ∧ Hid (KB (fun k => k = g) w _) := ⟨l2, HL2, Mrg.same (by rw [show mid = en by omega]; exact R4.out), HK2⟩
              go_wp2_with fail
              go_end0
              exact ⟨rfl, l3, HL3.out, Mrg.halves (st := i) (en := en) (mid := mid) (m := m) (by omega) (by omega) HMID.out hai' him hme heb hE.out HS1.out HS2.out HB1.out HB2.out HT1.out HP1.out HM2.out HM3.out, HK3.out⟩
          · obtain ⟨l2, HL2, HM2, HK2⟩ : ∃ l2, Hid (OwnF _ bs (.slice (some ⟨g, 0, none⟩) N cap) l2) ∧ Hid (Mrg (fun x : Flt => x.prio) l1 l2 a mid) ∧ Hid (KB (fun k => k = g) w _) := ⟨l1, HL1, Mrg.same (by rw [show a = i by omega]; exact RR.out.2.1), HK1⟩
            have R3 := Lib.hid (show SrtOn (kF (fun x : Flt => x.prio) l2) mid en from srt_out HM2.out.2.2.1 (Nat.le_refl _) RR.out.2.2.1)
            have R4 := Lib.hid (show SrtOn (kF (fun x : Flt => x.prio) l2) en b from srt_out HM2.out.2.2.1 (by omega) RR.out.2.2.2)
            rcases (show (mid < en ∧ en < b) ∨ (mid < en ∧ ¬ en < b) ∨ ¬ mid < en by omega) with ⟨c1, c2⟩ | ⟨c1, c2⟩ | c1
            · go_wp2_with fail
              refine (IH.out l2 mid en b _ (by omega) c1 c2 hb HL2.out R3.out R4.out).mono ?_
              rintro e w4 ⟨rfl, l3, O3, M3, k3⟩
              have HL3 := Lib.hid O3
              have HM3 := Lib.hid M3
              have HK3 := Lib.hid (HK2.out.same k3)
              clear O3 M3 k3
              go_wp2_with fail
              go_end0
              exact ⟨rfl, l3, HL3.out, Mrg.halves (st := i) (en := en) (mid := mid) (m := m) (by omega) (by omega) HMID.out hai' him hme heb hE.out HS1.out HS2.out HB1.out HB2.out HT1.out HP1.out HM2.out HM3.out, HK3.out⟩
            · obtain ⟨l3, HL3, HM3, HK3⟩ : ∃ l3, Hid (OwnF _ bs (.slice (some ⟨g, 0, none⟩) N cap) l3) ∧ Hid (Mrg (fun x : Flt => x.prio) l2 l3 mid b) ∧ Hid (KB (fun k => k = g) w _) := ⟨l2, HL2, Mrg.same (by rw [show b = en by omega]; exact R3.out), HK2⟩
              go_wp2_with fail
              go_end0
              exact ⟨rfl, l3, HL3.out, Mrg.halves (st := i) (en := en) (mid := mid) (m := m) (by omega) (by omega) HMID.out hai' him hme heb hE.out HS1.out HS2.out HB1.out HB2.out HT1.out HP1.out HM2.out HM3.out, HK3.out⟩
            · obtain ⟨l3, HL3, HM3, HK3⟩ : ∃ l3, Hid (OwnF _ bs (.slice (some ⟨g, 0, none⟩) N cap) l3) ∧ Hid (Mrg (fun x : Flt => x.prio) l2 l3 mid b) ∧ Hid (KB (fun k => k = g) w _) := ⟨l2, HL2, Mrg.same (by rw [show mid = en by omega]; exact R4.out), HK2⟩
              go_wp2_with fail
              go_end0
              exact ⟨rfl, l3, HL3.out, Mrg.halves (st := i) (en := en) (mid := mid) (m := m) (by omega) (by omega) HMID.out hai' him hme heb hE.out HS1.out HS2.out HB1.out HB2.out HT1.out HP1.out HM2.out HM3.out, HK3.out⟩
        · obtain ⟨l1, HL1, HP1, HT1, HK1⟩ : ∃ l1, Hid (OwnF _ bs (.slice (some ⟨g, 0, none⟩) N cap) l1) ∧ Hid (l1.Perm l) ∧ Hid (∀ t, l1[t]? = l[rot i m en t]?) ∧ Hid (KB (fun k => k = g) w _) := ⟨l, HW1, List.Perm.refl _, fun t => by rw [rot_id i m en him hme (by omega)], HKW⟩
          have RR := Lib.hid (rot_runs hai' him hme heb hE.out HS1.out HS2.out HT1.out)
          rcases (show (a < i ∧ i < mid) ∨ (a < i ∧ ¬ i < mid) ∨ ¬ a < i by omega) with ⟨q1, q2⟩ | ⟨q1, q2⟩ | q1
          · go_wp2_with fail
            refine (IH.out l1 a i mid _ (by omega) q1 q2 (by omega) HL1.out RR.out.1 RR.out.2.1).mono ?_
            rintro e w3 ⟨rfl, l2, O2, M2, k2⟩
            have HL2 := Lib.hid O2
            have HM2 := Lib.hid M2
            have HK2 := Lib.hid (HK1.out.same k2)
            clear O2 M2 k2
            have R3 := Lib.hid (show SrtOn (kF (fun x : Flt => x.prio) l2) mid en from srt_out HM2.out.2.2.1 (Nat.le_refl _) RR.out.2.2.1)
            have R4 := Lib.hid (show SrtOn (kF (fun x : Flt => x.prio) l2) en b from srt_out HM2.out.2.2.1 (by omega) RR.out.2.2.2)
            rcases (show (mid < en ∧ en < b) ∨ (mid < en ∧ ¬ en < b) ∨ ¬ mid < en by omega) with ⟨c1, c2⟩ | ⟨c1, c2⟩ | c1
            · go_wp2_with fail
              refine (IH.out l2 mid en b _ (by omega) c1 c2 hb HL2.out R3.out R4.out).mono ?_
              rintro e w4 ⟨rfl, l3, O3, M3, k3⟩
              have HL3 := Lib.hid O3
              have HM3 := Lib.hid M3
              have HK3 := Lib.hid (HK2.out.same k3)
              clear O3 M3 k3
              go_wp2_with fail
              go_end0
              exact ⟨rfl, l3, HL3.out, Mrg.halves (st := i) (en := en) (mid := mid) (m := m) (by omega) (by omega) HMID.out hai' him hme heb hE.out HS1.out HS2.out HB1.out HB2.out HT1.out HP1.out HM2.out HM3.out, HK3.out⟩
            · obtain ⟨l3, HL3, HM3, HK3⟩ : ∃ l3, Hid (OwnF _ bs (.slice (some ⟨g, 0, none⟩) N cap) l3) ∧ Hid (Mrg (fun x : Flt => x.prio) l2 l3 mid b) ∧ Hid (KB (fun k => k = g) w _) := ⟨l2, HL2, Mrg.same (by rw [show b = en by omega]; exact R3.out), HK2⟩
              go_wp2_with fail
              go_end0
              exact ⟨rfl, l3, HL3.out, Mrg.halves (st := i) (en := en) (mid := mid) (m := m) (by omega) (by omega) HMID.out hai' him hme heb hE.out HS1.out HS2.out HB1.out HB2.out HT1.out HP1.out HM2.out HM3.out, HK3.out⟩
            · obtain ⟨l3, HL3, HM3, HK3⟩ : ∃ l3, Hid (OwnF _ bs (.slice (some ⟨g, 0, none⟩) N cap) l3) ∧ Hid (Mrg (fun x : Flt => x.prio) l2 l3 mid b) ∧ Hid (KB (fun k => k = g) w _) := ⟨l2, HL2, Mrg.same (by rw [show mid = en by omega]; exact R4.out), HK2⟩
              go_wp2_with fail
              go_end0
              exact ⟨rfl, l3, HL3.out, Mrg.halves (st := i) (en := en) (mid := mid) (m := m) (by omega) (by omega) HMID.out hai' him hme heb hE.out HS1.out HS2.out HB1.out HB2.out HT1.out HP1.out HM2.out HM3.out, HK3.out⟩
          · obtain ⟨l2, HL2, HM2, HK2⟩ : ∃ l2, Hid (OwnF _ bs (.slice (some ⟨g, 0, none⟩) N cap) l2) ∧ Hid (Mrg (fun x : Flt => x.prio) l1 l2 a mid) ∧ Hid (KB (fun k => k = g) w _) := ⟨l1, HL1, Mrg.same (by rw [show mid = i by omega]; exact RR.out.1), HK1⟩
            have R3 := Lib.hid (show SrtOn (kF (fun x : Flt => x.prio) l2) mid en from srt_out HM2.out.2.2.1 (Nat.le_refl _) RR.out.2.2.1)
            have R4 := Lib.hid (show SrtOn (kF (fun x : Flt => x.prio) l2) en b from srt_out HM2.out.2.2.1 (by omega) RR.out.2.2.2)
            rcases (show (mid < en ∧ en < b) ∨ (mid < en ∧ ¬ en < b) ∨ ¬ mid < en by omega) with ⟨c1, c2⟩ | ⟨c1, c2⟩ | c1
            · go_wp2_with fail
              refine (IH.out l2 mid en b _ (by omega) c1 c2 hb HL2.out R3.out R4.out).mono ?_
              rintro e w4 ⟨rfl, l3, O3, M3, k3⟩
              have HL3 := Lib.hid O3
              have HM3 := Lib.hid M3
              have HK3 := Lib.hid (HK2.out.same k3)
              clear O3 M3 k3
              go_wp2_with fail
              go_end0
              exact ⟨rfl, l3, HL3.out, Mrg.halves (st := i) (en := en) (mid := mid) (m := m) (by omega) (by omega) HMID.out hai' him hme heb hE.out HS1.out HS2.out HB1.out HB2.out HT1.out HP1.out HM2.out HM3.out, HK3.out⟩
            · obtain ⟨l3, HL3, HM3, HK3⟩ : ∃ l3, Hid (OwnF _ bs (.slice (some ⟨g, 0, none⟩) N cap) l3) ∧ Hid (Mrg (fun x : Flt => x.prio) l2 l3 mid b) ∧ Hid (KB (fun k => k = g) w _) := ⟨l2, HL2, Mrg.same (by rw [show b = en by omega]; exact R3.out), HK2⟩
              go_wp2_with fail
              go_end0
              exact ⟨rfl, l3, HL3.out, Mrg.halves (st := i) (en := en) (mid := mid) (m := m) (by omega) (by omega) HMID.out hai' him hme heb hE.out HS1.out HS2.out HB1.out HB2.out HT1.out HP1.out HM2.out HM3.out, HK3.out⟩
            · obtain ⟨l3, HL3, HM3, HK3⟩ : ∃ l3, Hid (OwnF _ bs (.slice (some ⟨g, 0, none⟩) N cap) l3) ∧ Hid (Mrg (fun x : Flt => x.prio) l2 l3 mid b) ∧ Hid (KB (fun k => k = g) w _) := ⟨l2, HL2, Mrg.same (by rw [show mid = en by omega]; exact R4.out), HK2⟩
              go_wp2_with fail
              go_end0
              exact ⟨rfl, l3, HL3.out, Mrg.halves (st := i) (en := en) (mid := mid) (m := m) (by omega) (by omega) HMID.out hai' him hme heb hE.out HS1.out HS2.out HB1.out HB2.out HT1.out HP1.out HM2.out HM3.out, HK3.out⟩
          · obtain ⟨l2, HL2, HM2, HK2⟩ : ∃ l2, Hid (OwnF _ bs (.slice (some ⟨g, 0, none⟩) N cap) l2) ∧ Hid (Mrg (fun x : Flt => x.prio) l1 l2 a mid) ∧ Hid (KB (fun k => k = g) w _) := ⟨l1, HL1, Mrg.same (by rw [show a = i by omega]; exact RR.out.2.1), HK1⟩
            have R3 := Lib.hid (show SrtOn (kF (fun x : Flt => x.prio) l2) mid en from srt_out HM2.out.2.2.1 (Nat.le_refl _) RR.out.2.2.1)
            have R4 := Lib.hid (show SrtOn (kF (fun x : Flt => x.prio) l2) en b from srt_out HM2.out.2.2.1 (by omega) RR.out.2.2.2)
            rcases (show (mid < en ∧ en < b) ∨ (mid < en ∧ ¬ en < b) ∨ ¬ mid < en by omega) with ⟨c1, c2⟩ | ⟨c1, c2⟩ | c1
            · go_wp2_with fail
              refine (IH.out l2 mid en b _ (by omega) c1 c2 hb HL2.out R3.out R4.out).mono ?_
              rintro e w4 ⟨rfl, l3, O3, M3, k3⟩
              have HL3 := Lib.hid O3
              have HM3 := Lib.hid M3
              have HK3 := Lib.hid (HK2.out.same k3)
              clear O3 M3 k3
              go_wp2_with fail
              go_end0
              exact ⟨rfl, l3, HL3.out, Mrg.halves (st := i) (en := en) (mid := mid) (m := m) (by omega) (by omega) HMID.out hai' him hme heb hE.out HS1.out HS2.out HB1.out HB2.out HT1.out HP1.out HM2.out HM3.out, HK3.out⟩
            · obtain ⟨l3, HL3, HM3, HK3⟩ : ∃ l3, Hid (OwnF _ bs (.slice (some ⟨g, 0, none⟩) N cap) l3) ∧ Hid (Mrg (fun x : Flt => x.prio) l2 l3 mid b) ∧ Hid (KB (fun k => k = g) w _) := ⟨l2, HL2, Mrg.same (by rw [show b = en by omega]; exact R3.out), HK2⟩
              go_wp2_with fail
              go_end0
              exact ⟨rfl, l3, HL3.out, Mrg.halves (st := i) (en := en) (mid := mid) (m := m) (by omega) (by omega) HMID.out hai' him hme heb hE.out HS1.out HS2.out HB1.out HB2.out HT1.out HP1.out HM2.out HM3.out, HK3.out⟩
            · obtain ⟨l3, HL3, HM3, HK3⟩ : ∃ l3, Hid (OwnF _ bs (.slice (some ⟨g, 0, none⟩) N cap) l3) ∧ Hid (Mrg (fun x : Flt => x.prio) l2 l3 mid b) ∧ Hid (KB (fun k => k = g) w _) := ⟨l2, HL2, Mrg.same (by rw [show mid = en by omega]; exact R4.out), HK2⟩
              go_wp2_with fail
              go_end0
              exact ⟨rfl, l3, HL3.out, Mrg.halves (st := i) (en := en) (mid := mid) (m := m) (by omega) (by omega) HMID.out hai' him hme heb hE.out HS1.out HS2.out HB1.out HB2.out HT1.out HP1.out HM2.out HM3.out, HK3.out⟩
        · obtain ⟨l1, HL1, HP1, HT1, HK1⟩ : ∃ l1, Hid (OwnF _ bs (.slice (some ⟨g, 0, none⟩) N cap) l1) ∧ Hid (l1.Perm l) ∧ Hid (∀ t, l1[t]? = l[rot i m en t]?) ∧ Hid (KB (fun k => k = g) w _) := ⟨l, HW1, List.Perm.refl _, fun t => by rw [rot_id i m en him hme (by omega)], HKW⟩
          have RR := Lib.hid (rot_runs hai' him hme heb hE.out HS1.out HS2.out HT1.out)
          rcases (show (a < i ∧ i < mid) ∨ (a < i ∧ ¬ i < mid) ∨ ¬ a < i by omega) with ⟨q1, q2⟩ | ⟨q1, q2⟩ | q1
          · go_wp2_with fail
            refine (IH.out l1 a i mid _ (by omega) q1 q2 (by omega) HL1.out RR.out.1 RR.out.2.1).mono ?_
            rintro e w3 ⟨rfl, l2, O2, M2, k2⟩
            have HL2 := Lib.hid O2
            have HM2 := Lib.hid M2
            have HK2 := Lib.hid (HK1.out.same k2)
            clear O2 M2 k2
            have R3 := Lib.hid (show SrtOn (kF (fun x : Flt => x.prio) l2) mid en from srt_out HM2.out.2.2.1 (Nat.le_refl _) RR.out.2.2.1)
            have R4 := Lib.hid (show SrtOn (kF (fun x : Flt => x.prio) l2) en b from srt_out HM2.out.2.2.1 (by omega) RR.out.2.2.2)
            rcases (show (mid < en ∧ en < b) ∨ (mid < en ∧ ¬ en < b) ∨ ¬ mid < en by omega) with ⟨c1, c2⟩ | ⟨c1, c2⟩ | c1
            · go_wp2_with fail
              refine (IH.out l2 mid en b _ (by omega) c1 c2 hb HL2.out R3.out R4.out).mono ?_
              rintro e w4 ⟨rfl, l3, O3, M3, k3⟩
              have HL3 := Lib.hid O3
              have HM3 := Lib.hid M3
              have HK3 := Lib.hid (HK2.out.same k3)
              clear O3 M3 k3
              go_wp2_with fail
              go_end0
              exact ⟨rfl, l3, HL3.out, Mrg.halves (st := i) (en := en) (mid := mid) (m := m) (by omega) (by omega) HMID.out hai' him hme heb hE.out HS1.out HS2.out HB1.out HB2.out HT1.out HP1.out HM2.out HM3.out, HK3.out⟩
            · obtain ⟨l3, HL3, HM3, HK3⟩ : ∃ l3, Hid (OwnF _ bs (.slice (some ⟨g, 0, none⟩) N cap) l3) ∧ Hid (Mrg (fun x : Flt => x.prio) l2 l3 mid b) ∧ Hid (KB (fun k => k = g) w _) := ⟨l2, HL2, Mrg.same (by rw [show b = en by omega]; exact R3.out), HK2⟩
              go_wp2_with fail
              go_end0
              exact ⟨rfl, l3, HL3.out, Mrg.halves (st := i) (en := en) (mid := mid) (m := m) (by omega) (by omega) HMID.out hai' him hme heb hE.out HS1.out HS2.out HB1.out HB2.out HT1.out HP1.out HM2.out HM3.out, HK3.out⟩
            · obtain ⟨l3, HL3, HM3, HK3⟩ : ∃ l3, Hid (OwnF _ bs (.slice (some ⟨g, 0, none⟩) N cap) l3) ∧ Hid (Mrg (fun x : Flt => x.prio) l2 l3 mid b) ∧ Hid (KB (fun k => k = g) w _) := ⟨l2, HL2, Mrg.same (by rw [show mid = en by omega]; exact R4.out), HK2⟩
              go_wp2_with fail
              go_end0
              exact ⟨rfl, l3, HL3.out, Mrg.halves (st := i) (en := en) (mid := mid) (m := m) (by omega) (by omega) HMID.out hai' him hme heb hE.out HS1.out HS2.out HB1.out HB2.out HT1.out HP1.out HM2.out HM3.out, HK3.out⟩
          · obtain ⟨l2, HL2, HM2, HK2⟩ : ∃ l2, Hid (OwnF _ bs (.slice (some ⟨g, 0, none⟩) N cap) l2) ∧ Hid (Mrg (fun x : Flt => x.prio) l1 l2 a mid) ∧ Hid (KB (fun k => k = g) w _) := ⟨l1, HL1, Mrg.same (by rw [show mid = i by omega]; exact RR.out.1), HK1⟩
            have R3 := Lib.hid (show SrtOn (kF (fun x : Flt => x.prio) l2) mid en from srt_out HM2.out.2.2.1 (Nat.le_refl _) RR.out.2.2.1)
            have R4 := Lib.hid (show SrtOn (kF (fun x : Flt => x.prio) l2) en b from srt_out HM2.out.2.2.1 (by omega) RR.out.2.2.2)
            rcases (show (mid < en ∧ en < b) ∨ (mid < en ∧ ¬ en < b) ∨ ¬ mid < en by omega) with ⟨c1, c2⟩ | ⟨c1, c2⟩ | c1
            · go_wp2_with fail
              refine (IH.out l2 mid en b _ (by omega) c1 c2 hb HL2.out R3.out R4.out).mono ?_
              rintro e w4 ⟨rfl, l3, O3, M3, k3⟩
              have HL3 := Lib.hid O3
              have HM3 := Lib.hid M3
              have HK3 := Lib.hid (HK2.out.same k3)
              clear O3 M3 k3
              go_wp2_with fail
              go_end0
              exact ⟨rfl, l3, HL3.out, Mrg.halves (st := i) (en := en) (mid := mid) (m := m) (by omega) (by omega) HMID.out hai' him hme heb hE.out HS1.out HS2.out HB1.out HB2.out HT1.out HP1.out HM2.out HM3.out, HK3.out⟩
            · obtain ⟨l3, HL3, HM3, HK3⟩ : ∃ l3, Hid (OwnF _ bs (.slice (some ⟨g, 0, none⟩) N cap) l3) ∧ Hid (Mrg (fun x : Flt => x.prio) l2 l3 mid b) ∧ Hid (KB (fun k => k = g) w _) := ⟨l2, HL2, Mrg.same (by rw [show b = en by omega]; exact R3.out), HK2⟩
              go_wp2_with fail
              go_end0
              exact ⟨rfl, l3, HL3.out, Mrg.halves (st := i) (en := en) (mid := mid) (m := m) (by omega) (by omega) HMID.out hai' him hme heb hE.out HS1.out HS2.out HB1.out HB2.out HT1.out HP1.out HM2.out HM3.out, HK3.out⟩
            · obtain ⟨l3, HL3, HM3, HK3⟩ : ∃ l3, Hid (OwnF _ bs (.slice (some ⟨g, 0, none⟩) N cap) l3) ∧ Hid (Mrg (fun x : Flt => x.prio) l2 l3 mid b) ∧ Hid (KB (fun k => k = g) w _) := ⟨l2, HL2, Mrg.same (by rw [show mid = en by omega]; exact R4.out), HK2⟩
              go_wp2_with fail
              go_end0
              exact ⟨rfl, l3, HL3.out, Mrg.halves (st := i) (en := en) (mid := mid) (m := m) (by omega) (by omega) HMID.out hai' him hme heb hE.out HS1.out HS2.out HB1.out HB2.out HT1.out HP1.out HM2.out HM3.out, HK3.out⟩
          · obtain ⟨l2, HL2, HM2, HK2⟩ : ∃ l2, Hid (OwnF _ bs (.slice (some ⟨g, 0, none⟩) N cap) l2) ∧ Hid (Mrg (fun x : Flt => x.prio) l1 l2 a mid) ∧ Hid (KB (fun k => k = g) w _) := ⟨l1, HL1, Mrg.same (by rw [show a = i by omega]; exact RR.out.2.1), HK1⟩
            have R3 := Lib.hid (show SrtOn (kF (fun x : Flt => x.prio) l2) mid en from srt_out HM2.out.2.2.1 (Nat.le_refl _) RR.out.2.2.1)
            have R4 := Lib.hid (show SrtOn (kF (fun x : Flt => x.prio) l2) en b from srt_out HM2.out.2.2.1 (by omega) RR.out.2.2.2)
            rcases (show (mid < en ∧ en < b) ∨ (mid < en ∧ ¬ en < b) ∨ ¬ mid < en by omega) with ⟨c1, c2⟩ | ⟨c1, c2⟩ | c1
            · go_wp2_with fail
              refine (IH.out l2 mid en b _ (by omega) c1 c2 hb HL2.out R3.out R4.out).mono ?_
              rintro e w4 ⟨rfl, l3, O3, M3, k3⟩
              have HL3 := Lib.hid O3
              have HM3 := Lib.hid M3
              have HK3 := Lib.hid (HK2.out.same k3)
              clear O3 M3 k3
              go_wp2_with fail
              go_end0
              exact ⟨rfl, l3, HL3.out, Mrg.halves (st := i) (en := en) (mid := mid) (m := m) (by omega) (by omega) HMID.out hai' him hme heb hE.out HS1.out HS2.out HB1.out HB2.out HT1.out HP1.out HM2.out HM3.out, HK3.out⟩
            · obtain ⟨l3, HL3, HM3, HK3⟩ : ∃ l3, Hid (OwnF _ bs (.slice (some ⟨g, 0, none⟩) N cap) l3) ∧ Hid (Mrg (fun x : Flt => x.prio) l2 l3 mid b) ∧ Hid (KB (fun k => k = g) w _) := ⟨l2, HL2, Mrg.same (by rw [show b = en by omega]; exact R3.out), HK2⟩
              go_wp2_with fail
              go_end0
              exact ⟨rfl, l3, HL3.out, Mrg.halves (st := i) (en := en) (mid := mid) (m := m) (by omega) (by omega) HMID.out hai' him hme heb hE.out HS1.out HS2.out HB1.out HB2.out HT1.out HP1.out HM2.out HM3.out, HK3.out⟩
            · obtain ⟨l3, HL3, HM3, HK3⟩ : ∃ l3, Hid (OwnF _ bs (.slice (some ⟨g, 0, none⟩) N cap) l3) ∧ Hid (Mrg (fun x : Flt => x.prio) l2 l3 mid b) ∧ Hid (KB (fun k => k = g) w _) := ⟨l2, HL2, Mrg.same (by rw [show mid = en by omega]; exact R4.out), HK2⟩
              go_wp2_with fail
              go_end0
              exact ⟨rfl, l3, HL3.out, Mrg.halves (st := i) (en := en) (mid := mid) (m := m) (by omega) (by omega) HMID.out hai' him hme heb hE.out HS1.out HS2.out HB1.out HB2.out HT1.out HP1.out HM2.out HM3.out, HK3.out⟩

theorem symF_any (g cap N bs : Nat) (hN : N ≤ 1048576) : ∀ n, HypF g cap N bs n := by
  intro n
  induction n with
  | zero => exact fun l a m b w h => absurd h (by omega)
  | succ n ih =>
    intro l a m b w hn ham hmb hb h hs1 hs2
    by_cases e1 : m = a + 1
    · exact symAF_any l g cap N bs a m b w h e1 hmb hb hN hs2
    · by_cases e2 : b = m + 1
      · exact symBF_any l g cap N bs a m b w h e2 (by omega) hb hN hs1
      · exact symCF_any l g cap N bs a m b w h (by omega) (by omega) hb hN hs1 hs2 (fun l' a' m' b' w' h' => ih l' a' m' b' w' (by omega))
end Go.Proofs.YtbbenppmfmphfaaDoor
