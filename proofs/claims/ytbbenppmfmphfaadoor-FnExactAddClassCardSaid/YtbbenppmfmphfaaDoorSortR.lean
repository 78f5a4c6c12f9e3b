/- Sorting in place: ranges exchanged, rotation. Printed by wip/tools/gen_sort.py. -/
import Derived.Test.YtbbenppmfmphfaaDoorSortW
namespace Go.Proofs.YtbbenppmfmphfaaDoor
open Go.RowKit
set_option maxRecDepth 20000
set_option maxHeartbeats 1000000
set_option linter.unusedSimpArgs false
set_option linter.unusedVariables false

/-- What a rearrangement leaves of a row. -/
def RotAns {α : Type} (O : World → List α → Prop) (l : List α) (g : Nat) (σ : Nat → Nat) (w : World) (e : Ending) (w' : World) : Prop :=
  e = .returned (.tuple #[]) ∧ ∃ l', O w' l' ∧ l'.Perm l ∧ (∀ t, l'[t]? = l[σ t]?) ∧ KB (fun k => k = g) w w'
theorem swR_zero (a b t : Nat) : swR a b 0 t = t := by
  unfold swR
  rw [if_neg (by omega), if_neg (by omega)]
/-- What is still to be exchanged. -/
def RotRel {α : Type} (l cur : List α) (σ τ : Nat → Nat) : Prop := ∀ t, l[σ t]? = cur[τ t]?
/-- Read through a map of the indices. -/
def Thru {α : Type} (l cur : List α) (σ : Nat → Nat) : Prop := ∀ t, cur[t]? = l[σ t]?
theorem swrC_any (l : List Cls) (g cap N bs a b n : Nat) (w : World) (h : OwnC w bs (.slice (some ⟨g, 0, none⟩) N cap) l) (hab : a + n ≤ b) (hb : b + n ≤ N) (hN : N ≤ 1048576) :
    Calls Tryd.prog 99 #[(.slice (some ⟨g, 0, none⟩) N cap), .int .i64 (a : Int), .int .i64 (b : Int), .int .i64 (n : Int), .func (.func 51) #[] #[]] w (RotAns (fun w' l' => OwnC w' bs (.slice (some ⟨g, 0, none⟩) N cap) l') l g (swR a b n) w) := by
  have hl0 := rowC_len h
  have HO := Lib.hid h
  have HL := Lib.hid hl0
  clear h hl0
  go_enter Tryd.func99, Tryd.ntmps99
  go_wp2
  go_loopw [10] (fun t wr => ∃ k : Nat, t = .int .i64 (k : Int) ∧ k ≤ n ∧ ∃ l1, Hid (OwnC wr bs (.slice (some ⟨g, 0, none⟩) N cap) l1) ∧ Hid (l1.Perm l) ∧ Hid (Thru l l1 (swR a b k)) ∧ Hid (KB (fun k => k = g) w wr)) (fun t _ => n - (intOf t).toNat)
  case atStart => exact ⟨0, rfl, Nat.zero_le _, l, HO.out, List.Perm.refl _, fun t => by rw [swR_zero], KB.refl _ _⟩
  case round =>
    obtain ⟨k, rfl, hk, l1, HO1, HP, HT, HK⟩ := hrel
    have hl1 := Lib.hid (rowC_len HO1.out)
    by_cases hlt : k < n
    · have hltz : (k : Int) < (n : Int) := by omega
      obtain ⟨p1, hp1⟩ : ∃ p1 : Nat, (a : Int) + (k : Int) = (p1 : Int) := ⟨a + k, by omega⟩
      obtain ⟨p2, hp2⟩ : ∃ p2 : Nat, (b : Int) + (k : Int) = (p2 : Int) := ⟨b + k, by omega⟩
      have P1 := Lib.hid (show p1 = a + k by omega)
      have P2 := Lib.hid (show p2 = b + k by omega)
      obtain ⟨x, hx⟩ : ∃ x, l1[p1]? = some x := ⟨_, List.getElem?_eq_getElem (by rw [hl1.out]; omega)⟩
      obtain ⟨y, hy⟩ : ∃ y, l1[p2]? = some y := ⟨_, List.getElem?_eq_getElem (by rw [hl1.out]; omega)⟩
      have HX := Lib.hid hx
      have HY := Lib.hid hy
      clear hx hy
      obtain ⟨⟨xc0, xc1, xc2, xc3, xc4, xc5, xc6, xc7⟩, ⟨xf0, xf1, xf2, xf3, xf4, xf5, xf6, xf7⟩, xg⟩ := rowC HO1.out p1 x HX.out
      obtain ⟨⟨yc0, yc1, yc2, yc3, yc4, yc5, yc6, yc7⟩, ⟨yf0, yf1, yf2, yf3, yf4, yf5, yf6, yf7⟩, yg⟩ := rowC HO1.out p2 y HY.out
      have b1 : (p1 : Int) < (N : Int) := by omega
      have b2 : (p2 : Int) < (N : Int) := by omega
      have hw1 : IntKind.i64.wrap (p1 : Int) = (p1 : Int) := by rw [IntKind.wrap_i64]; omega
      have hw2 : IntKind.i64.wrap (p2 : Int) = (p2 : Int) := by rw [IntKind.wrap_i64]; omega
      go_wp2_with fail
      go_big_region
      all_goals
        go_wp2_with fail
        go_roundw
        case rel =>
          refine ⟨k + 1, by go_num, by omega, swp l1 p1 p2, Own.ext (swapRowC HO1.out p1 p2 x y HX.out HY.out) (Ext.refl _).drew, ?_, ?_, ?_⟩
          · exact (swp_perm l1 p1 p2 (by rw [hl1.out]; omega) (by rw [hl1.out]; omega)).trans HP.out
          · rw [P1.out, P2.out]
            exact fun t => swR_step (by omega) (by rw [hl1.out]; omega) HT.out t
          · refine KB.ext ?_ (Ext.refl _).drew
            repeat (with_reducible refine KB.set ?_ _ _)
            exact HK.out
        case measure => (simp [intOf]; try omega)
    · obtain rfl : k = n := by omega
      go_wp2_with fail
      go_end0
      exact ⟨rfl, l1, HO1.out, HP.out, HT.out, HK.out⟩
theorem rotC_any (l : List Cls) (g cap N bs a m b : Nat) (w : World) (h : OwnC w bs (.slice (some ⟨g, 0, none⟩) N cap) l) (ham : a < m) (hmb : m < b) (hb : b ≤ N) (hN : N ≤ 1048576) :
    Calls Tryd.prog 96 #[(.slice (some ⟨g, 0, none⟩) N cap), .int .i64 (a : Int), .int .i64 (m : Int), .int .i64 (b : Int), .func (.func 51) #[] #[]] w (RotAns (fun w' l' => OwnC w' bs (.slice (some ⟨g, 0, none⟩) N cap) l') l g (rot a m b) w) := by
  have HO := Lib.hid h
  clear h
  go_enter Tryd.func96, Tryd.ntmps96
  go_wp2_with fail
  go_loopw [10, 11] (fun t u wr => ∃ i j : Nat, t = .int .i64 (i : Int) ∧ u = .int .i64 (j : Int) ∧ 0 < i ∧ 0 < j ∧ i ≤ m ∧ m + j ≤ N ∧ ∃ l1, Hid (OwnC wr bs (.slice (some ⟨g, 0, none⟩) N cap) l1) ∧ Hid (l1.Perm l) ∧ Hid (RotRel l l1 (rot a m b) (rot (m - i) m (m + j))) ∧ Hid (KB (fun k => k = g) w wr)) (fun t u _ => (intOf t).toNat + (intOf u).toNat)
  case atStart =>
    refine ⟨m - a, b - m, by congr 1; omega, by congr 1; omega, by omega, by omega, by omega, by omega, l, HO.out, List.Perm.refl _, fun t => ?_, KB.refl _ _⟩
    rw [show m - (m - a) = a by omega, show m + (b - m) = b by omega]
  case round =>
    obtain ⟨i, j, rfl, rfl, hi0, hj0, him, hjN, l1, HO1, HP, HT, HK⟩ := hrel
    obtain ⟨w1, rfl⟩ : ∃ x : World, x = wr := ⟨_, rfl⟩
    rcases Nat.lt_trichotomy i j with hij | hij | hij
    · have hne : ((i : Int) != (j : Int)) = true := by simp; omega
      have hgt : ¬ (j : Int) < (i : Int) := by omega
      go_wp2_with fail
      rw [show (m : Int) - (i : Int) = ((m - i : Nat) : Int) by omega, show (m : Int) + (j : Int) - (i : Int) = ((m + j - i : Nat) : Int) by omega]
      refine (swrC_any l1 g cap N bs (m - i) (m + j - i) i _ HO1.out (by omega) (by omega) hN).mono ?_
      rintro e w2 ⟨rfl, l2, O2, p2, t2, k2⟩
      have HO2 := Lib.hid O2
      have HP2 := Lib.hid p2
      have HT2 := Lib.hid t2
      have HK2 := Lib.hid k2
      clear O2 p2 t2 k2
      go_wp2_with fail
      go_roundw
      case rel =>
        refine ⟨i, j - i, rfl, by congr 1; omega, hi0, by omega, him, by omega, l2, HO2.out, HP2.out.trans HP.out, fun t => ?_, HK.out.same HK2.out⟩
        rw [HT.out t, HT2.out, rot_right m i j t hij him]
      case measure => (simp [intOf]; try omega)
    · subst hij
      have hne : ((i : Int) != (i : Int)) = false := by simp
      go_wp2_with fail
      rw [show (m : Int) - (i : Int) = ((m - i : Nat) : Int) by omega]
      refine (swrC_any l1 g cap N bs (m - i) m i _ HO1.out (by omega) (by omega) hN).mono ?_
      rintro e w2 ⟨rfl, l2, O2, p2, t2, k2⟩
      have HO2 := Lib.hid O2
      have HP2 := Lib.hid p2
      have HT2 := Lib.hid t2
      have HK2 := Lib.hid k2
      clear O2 p2 t2 k2
      go_wp2_with fail
      go_end0
      exact ⟨rfl, l2, HO2.out, HP2.out.trans HP.out, fun t => by rw [HT.out t, HT2.out, rot_even m i t him], HK.out.same HK2.out⟩
    · have hne : ((i : Int) != (j : Int)) = true := by simp; omega
      have hgt : (j : Int) < (i : Int) := by omega
      go_wp2_with fail
      rw [show (m : Int) - (i : Int) = ((m - i : Nat) : Int) by omega]
      refine (swrC_any l1 g cap N bs (m - i) m j _ HO1.out (by omega) (by omega) hN).mono ?_
      rintro e w2 ⟨rfl, l2, O2, p2, t2, k2⟩
      have HO2 := Lib.hid O2
      have HP2 := Lib.hid p2
      have HT2 := Lib.hid t2
      have HK2 := Lib.hid k2
      clear O2 p2 t2 k2
      go_wp2_with fail
      go_roundw
      case rel =>
        refine ⟨i - j, j, by congr 1; omega, rfl, by omega, hj0, by omega, hjN, l2, HO2.out, HP2.out.trans HP.out, fun t => ?_, HK.out.same HK2.out⟩
        rw [HT.out t, HT2.out, rot_left m i j t hij him]
      case measure => (simp [intOf]; try omega)
theorem swrF_any (l : List Flt) (g cap N bs a b n : Nat) (w : World) (h : OwnF w bs (.slice (some ⟨g, 0, none⟩) N cap) l) (hab : a + n ≤ b) (hb : b + n ≤ N) (hN : N ≤ 1048576) :
    Calls Tryd.prog 100 #[(.slice (some ⟨g, 0, none⟩) N cap), .int .i64 (a : Int), .int .i64 (b : Int), .int .i64 (n : Int), .func (.func 54) #[] #[]] w (RotAns (fun w' l' => OwnF w' bs (.slice (some ⟨g, 0, none⟩) N cap) l') l g (swR a b n) w) := by
  have hl0 := rowF_len h
  have HO := Lib.hid h
  have HL := Lib.hid hl0
  clear h hl0
  go_enter Tryd.func100, Tryd.ntmps100
  go_wp2
  go_loopw [10] (fun t wr => ∃ k : Nat, t = .int .i64 (k : Int) ∧ k ≤ n ∧ ∃ l1, Hid (OwnF wr bs (.slice (some ⟨g, 0, none⟩) N cap) l1) ∧ Hid (l1.Perm l) ∧ Hid (Thru l l1 (swR a b k)) ∧ Hid (KB (fun k => k = g) w wr)) (fun t _ => n - (intOf t).toNat)
  case atStart => exact ⟨0, rfl, Nat.zero_le _, l, HO.out, List.Perm.refl _, fun t => by rw [swR_zero], KB.refl _ _⟩
  case round =>
    obtain ⟨k, rfl, hk, l1, HO1, HP, HT, HK⟩ := hrel
    have hl1 := Lib.hid (rowF_len HO1.out)
    by_cases hlt : k < n
    · have hltz : (k : Int) < (n : Int) := by omega
      obtain ⟨p1, hp1⟩ : ∃ p1 : Nat, (a : Int) + (k : Int) = (p1 : Int) := ⟨a + k, by omega⟩
      obtain ⟨p2, hp2⟩ : ∃ p2 : Nat, (b : Int) + (k : Int) = (p2 : Int) := ⟨b + k, by omega⟩
      have P1 := Lib.hid (show p1 = a + k by omega)
      have P2 := Lib.hid (show p2 = b + k by omega)
      obtain ⟨x, hx⟩ : ∃ x, l1[p1]? = some x := ⟨_, List.getElem?_eq_getElem (by rw [hl1.out]; omega)⟩
      obtain ⟨y, hy⟩ : ∃ y, l1[p2]? = some y := ⟨_, List.getElem?_eq_getElem (by rw [hl1.out]; omega)⟩
      have HX := Lib.hid hx
      have HY := Lib.hid hy
      clear hx hy
      obtain ⟨⟨xc0, xc1, xc2, xc3, xc4⟩, ⟨xf0, xf1, xf2, xf3, xf4⟩, xg⟩ := rowF HO1.out p1 x HX.out
      obtain ⟨⟨yc0, yc1, yc2, yc3, yc4⟩, ⟨yf0, yf1, yf2, yf3, yf4⟩, yg⟩ := rowF HO1.out p2 y HY.out
      have b1 : (p1 : Int) < (N : Int) := by omega
      have b2 : (p2 : Int) < (N : Int) := by omega
      have hw1 : IntKind.i64.wrap (p1 : Int) = (p1 : Int) := by rw [IntKind.wrap_i64]; omega
      have hw2 : IntKind.i64.wrap (p2 : Int) = (p2 : Int) := by rw [IntKind.wrap_i64]; omega
      go_wp2_with fail
      go_big_region
      all_goals
        go_wp2_with fail
        go_roundw
        case rel =>
          refine ⟨k + 1, by go_num, by omega, swp l1 p1 p2, Own.ext (swapRowF HO1.out p1 p2 x y HX.out HY.out) (Ext.refl _).drew, ?_, ?_, ?_⟩
          · exact (swp_perm l1 p1 p2 (by rw [hl1.out]; omega) (by rw [hl1.out]; omega)).trans HP.out
          · rw [P1.out, P2.out]
            exact fun t => swR_step (by omega) (by rw [hl1.out]; omega) HT.out t
          · refine KB.ext ?_ (Ext.refl _).drew
            repeat (with_reducible refine KB.set ?_ _ _)
            exact HK.out
        case measure => (simp [intOf]; try omega)
    · obtain rfl : k = n := by omega
      go_wp2_with fail
      go_end0
      exact ⟨rfl, l1, HO1.out, HP.out, HT.out, HK.out⟩
theorem rotF_any (l : List Flt) (g cap N bs a m b : Nat) (w : World) (h : OwnF w bs (.slice (some ⟨g, 0, none⟩) N cap) l) (ham : a < m) (hmb : m < b) (hb : b ≤ N) (hN : N ≤ 1048576) :
    Calls Tryd.prog 97 #[(.slice (some ⟨g, 0, none⟩) N cap), .int .i64 (a : Int), .int .i64 (m : Int), .int .i64 (b : Int), .func (.func 54) #[] #[]] w (RotAns (fun w' l' => OwnF w' bs (.slice (some ⟨g, 0, none⟩) N cap) l') l g (rot a m b) w) := by
  have HO := Lib.hid h
  clear h
  go_enter Tryd.func97, Tryd.ntmps97
  go_wp2_with fail
  go_loopw [10, 11] (fun t u wr => ∃ i j : Nat, t = .int .i64 (i : Int) ∧ u = .int .i64 (j : Int) ∧ 0 < i ∧ 0 < j ∧ i ≤ m ∧ m + j ≤ N ∧ ∃ l1, Hid (OwnF wr bs (.slice (some ⟨g, 0, none⟩) N cap) l1) ∧ Hid (l1.Perm l) ∧ Hid (RotRel l l1 (rot a m b) (rot (m - i) m (m + j))) ∧ Hid (KB (fun k => k = g) w wr)) (fun t u _ => (intOf t).toNat + (intOf u).toNat)
  case atStart =>
    refine ⟨m - a, b - m, by congr 1; omega, by congr 1; omega, by omega, by omega, by omega, by omega, l, HO.out, List.Perm.refl _, fun t => ?_, KB.refl _ _⟩
    rw [show m - (m - a) = a by omega, show m + (b - m) = b by omega]
  case round =>
    obtain ⟨i, j, rfl, rfl, hi0, hj0, him, hjN, l1, HO1, HP, HT, HK⟩ := hrel
    obtain ⟨w1, rfl⟩ : ∃ x : World, x = wr := ⟨_, rfl⟩
    rcases Nat.lt_trichotomy i j with hij | hij | hij
    · have hne : ((i : Int) != (j : Int)) = true := by simp; omega
      have hgt : ¬ (j : Int) < (i : Int) := by omega
      go_wp2_with fail
      rw [show (m : Int) - (i : Int) = ((m - i : Nat) : Int) by omega, show (m : Int) + (j : Int) - (i : Int) = ((m + j - i : Nat) : Int) by omega]
      refine (swrF_any l1 g cap N bs (m - i) (m + j - i) i _ HO1.out (by omega) (by omega) hN).mono ?_
      rintro e w2 ⟨rfl, l2, O2, p2, t2, k2⟩
      have HO2 := Lib.hid O2
      have HP2 := Lib.hid p2
      have HT2 := Lib.hid t2
      have HK2 := Lib.hid k2
      clear O2 p2 t2 k2
      go_wp2_with fail
      go_roundw
      case rel =>
        refine ⟨i, j - i, rfl, by congr 1; omega, hi0, by omega, him, by omega, l2, HO2.out, HP2.out.trans HP.out, fun t => ?_, HK.out.same HK2.out⟩
        rw [HT.out t, HT2.out, rot_right m i j t hij him]
      case measure => (simp [intOf]; try omega)
    · subst hij
      have hne : ((i : Int) != (i : Int)) = false := by simp
      go_wp2_with fail
      rw [show (m : Int) - (i : Int) = ((m - i : Nat) : Int) by omega]
      refine (swrF_any l1 g cap N bs (m - i) m i _ HO1.out (by omega) (by omega) hN).mono ?_
      rintro e w2 ⟨rfl, l2, O2, p2, t2, k2⟩
      have HO2 := Lib.hid O2
      have HP2 := Lib.hid p2
      have HT2 := Lib.hid t2
      have HK2 := Lib.hid k2
      clear O2 p2 t2 k2
      go_wp2_with fail
      go_end0
      exact ⟨rfl, l2, HO2.out, HP2.out.trans HP.out, fun t => by rw [HT.out t, HT2.out, rot_even m i t him], HK.out.same HK2.out⟩
    · have hne : ((i : Int) != (j : Int)) = true := by simp; omega
      have hgt : (j : Int) < (i : Int) := by omega
      go_wp2_with fail
      rw [show (m : Int) - (i : Int) = ((m - i : Nat) : Int) by omega]
      refine (swrF_any l1 g cap N bs (m - i) m j _ HO1.out (by omega) (by omega) hN).mono ?_
      rintro e w2 ⟨rfl, l2, O2, p2, t2, k2⟩
      have HO2 := Lib.hid O2
      have HP2 := Lib.hid p2
      have HT2 := Lib.hid t2
      have HK2 := Lib.hid k2
      clear O2 p2 t2 k2
      go_wp2_with fail
      go_roundw
      case rel =>
        refine ⟨i - j, j, by congr 1; omega, rfl, by omega, hj0, by omega, hjN, l2, HO2.out, HP2.out.trans HP.out, fun t => ?_, HK.out.same HK2.out⟩
        rw [HT.out t, HT2.out, rot_left m i j t hij him]
      case measure => (simp [intOf]; try omega)
theorem srt_out {α : Type} {key : α → Int} {l l' : List α} {a b p q : Nat} (h : ∀ t, (t < a ∨ b ≤ t) → l'[t]? = l[t]?) (hp : b ≤ p) (hs : SrtOn (kF key l) p q) : SrtOn (kF key l') p q := fun i j h1 h2 h3 => by
  rw [kF_eq key (h i (by omega)), kF_eq key (h j (by omega))]
  exact hs i j h1 h2 h3
end Go.Proofs.YtbbenppmfmphfaaDoor
