/- Sorting in place: the whole. Printed by wip/tools/gen_sort.py. -/
import Derived.Test.YtbbenppmfmphfaaDoorSortM
import Derived.Test.YtbbenppmfmphfaaDoorSortN
namespace Go.Proofs.YtbbenppmfmphfaaDoor
open Go.RowKit
set_option maxRecDepth 20000
set_option maxHeartbeats 1000000
set_option linter.unusedSimpArgs false
set_option linter.unusedVariables false

theorem ins0C_any (A0 : Option Addr) (c : Nat) (w : World) :
    Calls Tryd.prog 90 #[.slice A0 0 c, .int .i64 0, .int .i64 0, .func (.func 51) #[] #[]] w fun e w' => e = .returned (.tuple #[]) ∧ w = w' := by
  go_enter Tryd.func90, Tryd.ntmps90
  go_wp2_with fail
  go_loopw [8] (fun t wr => t = .int .i64 1 ∧ w = wr) (fun t _ => 0)
  case atStart => exact ⟨rfl, rfl⟩
  case round =>
    obtain ⟨rfl, rfl⟩ := hrel
    go_wp2_with fail
    go_end0
    exact ⟨rfl, rfl⟩
theorem stb0C_any (A0 : Option Addr) (c : Nat) (w : World) :
    Calls Tryd.prog 77 #[.slice A0 0 c, .int .i64 0, .func (.func 51) #[] #[]] w fun e w' => e = .returned (.tuple #[]) ∧ w = w' := by
  go_enter Tryd.func77, Tryd.ntmps77
  go_wp2_with fail
  go_loopw [7, 8] (fun t u wr => t = .int .i64 0 ∧ u = .int .i64 20 ∧ w = wr) (fun t u _ => 0)
  case atStart => exact ⟨rfl, rfl, rfl⟩
  case round =>
    obtain ⟨rfl, rfl, rfl⟩ := hrel
    go_wp2_with fail
    refine (ins0C_any A0 c _).mono ?_
    rintro e w1 ⟨rfl, rfl⟩
    go_wp2_with fail
    go_loopw [6, 7, 8, 9] (fun s t u v wr => s = .int .i64 20 ∧ w = wr) (fun s t u v _ => 0)
    case atStart => exact ⟨rfl, rfl⟩
    case round =>
      obtain ⟨rfl, rfl⟩ := hrel
      go_wp2_with fail
      go_end0
      exact ⟨rfl, rfl⟩
/-- The heads of the blocks' loop. -/
def Stb1C (l : List Cls) (g cap N bs : Nat) (w : World) (t u : Value) (wr : World) : Prop :=
  ∃ k : Nat, (k = 0 ∨ k = 20 ∧ 20 ≤ N) ∧ t = .int .i64 (k : Int) ∧ u = .int .i64 ((k : Int) + 20) ∧ ∃ l1, Hid (OwnC wr bs (.slice (some ⟨g, 0, none⟩) N cap) l1) ∧ Hid (Mrg (fun x : Cls => x.id) l l1 0 k) ∧ Hid (KB (fun k => k = g) w wr)
def Stb2C (l : List Cls) (g cap N bs : Nat) (w : World) (s : Value) (wr : World) : Prop :=
  ∃ k : Nat, (k = 20 ∨ k = 40) ∧ s = .int .i64 (k : Int) ∧ ∃ l1, Hid (OwnC wr bs (.slice (some ⟨g, 0, none⟩) N cap) l1) ∧ Hid (l1.Perm l) ∧ Hid (SrtOn (kF (fun x : Cls => x.id) l1) 0 (min k N)) ∧ Hid (k = 20 → SrtOn (kF (fun x : Cls => x.id) l1) 20 N) ∧ Hid (KB (fun k => k = g) w wr)
/-- What sorting a whole row leaves. -/
def FinAns {α : Type} (O : World → List α → Prop) (key : α → Int) (l : List α) (S : Nat → Prop) (w : World) (e : Ending) (w' : World) : Prop :=
  e = .returned (.tuple #[]) ∧ ∃ l', O w' l' ∧ l'.Perm l ∧ SrtOn (kF key l') 0 l.length ∧ KB S w w'
theorem stbC_any (l : List Cls) (g cap N bs : Nat) (w : World) (h : OwnC w bs (.slice (some ⟨g, 0, none⟩) N cap) l) (hN : N ≤ 39) :
    Calls Tryd.prog 77 #[(.slice (some ⟨g, 0, none⟩) N cap), .int .i64 (N : Int), .func (.func 51) #[] #[]] w (FinAns (fun w' l' => OwnC w' bs (.slice (some ⟨g, 0, none⟩) N cap) l') (fun x : Cls => x.id) l (fun k => k = g) w) := by
  have hl0 := Lib.hid (rowC_len h)
  have HO := Lib.hid h
  clear h
  go_enter Tryd.func77, Tryd.ntmps77
  go_wp2_with fail
  go_loopw [7, 8] (fun t u wr => Stb1C l g cap N bs w t u wr) (fun t _ _ => 60 - (intOf t).toNat)
  case atStart => exact ⟨0, .inl rfl, rfl, rfl, l, HO.out, Mrg.same (SrtOn.small _ (by omega)), KB.refl _ _⟩
  case round =>
    obtain ⟨k, hk, rfl, rfl, l1, HO1, HM, HK⟩ := hrel
    obtain ⟨w1, rfl⟩ : ∃ x : World, x = wr := ⟨_, rfl⟩
    by_cases hlt : k + 20 ≤ N
    · obtain rfl : k = 0 := by omega
      have hltz : (20 : Int) ≤ (N : Int) := by omega
      go_wp2_with fail
      refine (insC_any l1 g cap N bs 0 20 _ HO1.out (by omega) (by omega) (by omega)).mono ?_
      rintro e w2 ⟨rfl, l2, O2, M2, k2⟩
      have HO2 := Lib.hid O2
      have HM2 := Lib.hid M2
      have HK2 := Lib.hid (HK.out.same k2)
      clear O2 M2 k2
      go_wp2_with fail
      go_roundw
      case rel =>
        refine ⟨20, .inr ⟨rfl, by omega⟩, rfl, rfl, l2, HO2.out, ?_, HK2.out⟩
        exact ⟨HM2.out.1.trans HM.out.1, HM2.out.2.1, fun t ht => (HM2.out.2.2.1 t ht).trans (HM.out.2.2.1 t (by omega)), fun t h1 h2 => by
          obtain ⟨s, p, q, r⟩ := HM2.out.2.2.2 t h1 h2
          exact ⟨s, p, q, r.trans (HM.out.2.2.1 s (by omega))⟩⟩
      case measure => (simp [intOf]; try omega)
    · have hltz : ¬ (k : Int) + 20 ≤ (N : Int) := by omega
      have hkN : k ≤ N := by omega
      go_wp2_with fail
      refine (insC_any l1 g cap N bs k N _ HO1.out hkN (Nat.le_refl _) (by omega)).mono ?_
      rintro e w2 ⟨rfl, l2, O2, M2, k2⟩
      have HO2 := Lib.hid O2
      have HP2 := Lib.hid (M2.1.trans HM.out.1)
      have HS2 := Lib.hid (show SrtOn (kF (fun x : Cls => x.id) l2) 0 (min 20 N) by
        rcases hk with hk | hk
        · subst hk; rw [show min 20 N = N by omega]; exact M2.2.1
        · rw [show min 20 N = k by omega]
          exact fun i j h1 h2 h3 => by rw [kF_eq (fun x : Cls => x.id) (M2.2.2.1 i (.inl (by omega))), kF_eq (fun x : Cls => x.id) (M2.2.2.1 j (.inl (by omega)))]; exact HM.out.2.1 i j h1 h2 h3)
      have HT2 := Lib.hid (show SrtOn (kF (fun x : Cls => x.id) l2) 20 N by
        rcases hk with hk | hk
        · exact SrtOn.small _ (by omega)
        · rw [← hk.1]; exact M2.2.1)
      have HK2 := Lib.hid (HK.out.same k2)
      clear O2 M2 k2
      go_wp2_with fail
      go_loopw [6, 7, 8, 9] (fun s t u v wr => Stb2C l g cap N bs w s wr) (fun s t u v _ => 60 - (intOf s).toNat)
      case atStart => exact ⟨20, .inl rfl, rfl, l2, HO2.out, HP2.out, HS2.out, Lib.hid (fun _ => HT2.out), HK2.out⟩
      case round =>
        obtain ⟨q, hq, rfl, l3, HO3, HP3, HS3, HT3, HK3⟩ := hrel
        obtain ⟨w3, rfl⟩ : ∃ x : World, x = wr := ⟨_, rfl⟩
        by_cases hqN : q < N
        · obtain rfl : q = 20 := by omega
          have hqz : (20 : Int) < (N : Int) := by omega
          have hq40 : ¬ (40 : Int) ≤ (N : Int) := by omega
          go_wp2_with fail
          go_loopw [7, 8] (fun t u wr => t = .int .i64 0 ∧ u = .int .i64 40 ∧ w3 = wr) (fun t u _ => 0)
          case atStart => exact ⟨rfl, rfl, rfl⟩
          case round =>
            obtain ⟨rfl, rfl, rfl⟩ := hrel
            go_wp2_with fail
            refine (symC_any g cap N bs (by omega) (N + 1) l3 0 20 N _ (by omega) (by omega) (by omega) (Nat.le_refl _) HO3.out (by have := HS3.out; rwa [show min 20 N = 20 by omega] at this) (HT3.out (by first | trivial | rfl))).mono ?_
            rintro e w4 ⟨rfl, l4, O4, M4, k4⟩
            have HO4 := Lib.hid O4
            have HM4 := Lib.hid M4
            have HK4 := Lib.hid (HK3.out.same k4)
            clear O4 M4 k4
            go_wp2_with fail
            go_roundw
            case rel => exact ⟨40, .inr rfl, rfl, l4, HO4.out, HM4.out.1.trans HP3.out, by rw [show min 40 N = N by omega]; exact HM4.out.2.1, Lib.hid (fun h => absurd h (by decide)), HK4.out⟩
            case measure => (simp [intOf]; try omega)
        · have hqz : ¬ (q : Int) < (N : Int) := by omega
          go_wp2_with fail
          go_end0
          exact ⟨rfl, l3, HO3.out, HP3.out, by rw [hl0.out]; have := HS3.out; rwa [show min q N = N by omega] at this, HK3.out⟩
theorem sortC_any (l : List Cls) (v : Value) (bs : Nat) (w : World) (h : OwnC w bs v l) (hN : l.length ≤ 39) :
    Calls Tryd.prog 50 #[v, .func (.func 51) #[] #[]] w (FinAns (fun w' l' => OwnC w' bs v l') (fun x : Cls => x.id) l (fun k => v.ownBlock = some k) w) := by
  by_cases h0 : 0 < l.length
  · obtain ⟨g, cap, cells, rfl, hb, hglt, _⟩ := Own.blk h h0
    have HO := Lib.hid h
    clear h
    go_enter Tryd.func50, Tryd.ntmps50
    go_wp2_with fail
    refine (stbC_any l g cap l.length bs _ HO.out hN).mono ?_
    rintro e w1 ⟨rfl, l1, O1, p1, s1, k1⟩
    go_wp2_with fail
    go_end0
    exact ⟨rfl, l1, O1, p1, s1, KB.mono k1 (fun i hi => by subst hi; rfl)⟩
  · obtain ⟨A0, c, hv, _, _⟩ := Own.rd h Cls.len
    have hl : l.length = 0 := by omega
    rw [hl] at hv
    subst hv
    have HO := Lib.hid h
    have HL := Lib.hid hl
    clear h hl
    go_enter Tryd.func50, Tryd.ntmps50
    go_wp2_with fail
    refine (stb0C_any A0 c _).mono ?_
    rintro e w1 ⟨rfl, rfl⟩
    go_wp2_with fail
    go_end0
    exact ⟨rfl, l, HO.out, List.Perm.refl _, by rw [HL.out]; exact SrtOn.small _ (by omega), KB.refl _ _⟩
theorem ins0F_any (A0 : Option Addr) (c : Nat) (w : World) :
    Calls Tryd.prog 92 #[.slice A0 0 c, .int .i64 0, .int .i64 0, .func (.func 54) #[] #[]] w fun e w' => e = .returned (.tuple #[]) ∧ w = w' := by
  go_enter Tryd.func92, Tryd.ntmps92
  go_wp2_with fail
  go_loopw [8] (fun t wr => t = .int .i64 1 ∧ w = wr) (fun t _ => 0)
  case atStart => exact ⟨rfl, rfl⟩
  case round =>
    obtain ⟨rfl, rfl⟩ := hrel
    go_wp2_with fail
    go_end0
    exact ⟨rfl, rfl⟩
theorem stb0F_any (A0 : Option Addr) (c : Nat) (w : World) :
    Calls Tryd.prog 78 #[.slice A0 0 c, .int .i64 0, .func (.func 54) #[] #[]] w fun e w' => e = .returned (.tuple #[]) ∧ w = w' := by
  go_enter Tryd.func78, Tryd.ntmps78
  go_wp2_with fail
  go_loopw [7, 8] (fun t u wr => t = .int .i64 0 ∧ u = .int .i64 20 ∧ w = wr) (fun t u _ => 0)
  case atStart => exact ⟨rfl, rfl, rfl⟩
  case round =>
    obtain ⟨rfl, rfl, rfl⟩ := hrel
    go_wp2_with fail
    refine (ins0F_any A0 c _).mono ?_
    rintro e w1 ⟨rfl, rfl⟩
    go_wp2_with fail
    go_loopw [6, 7, 8, 9] (fun s t u v wr => s = .int .i64 20 ∧ w = wr) (fun s t u v _ => 0)
    case atStart => exact ⟨rfl, rfl⟩
    case round =>
      obtain ⟨rfl, rfl⟩ := hrel
      go_wp2_with fail
      go_end0
      exact ⟨rfl, rfl⟩
/-- The heads of the blocks' loop. -/
def Stb1F (l : List Flt) (g cap N bs : Nat) (w : World) (t u : Value) (wr : World) : Prop :=
  ∃ k : Nat, (k = 0 ∨ k = 20 ∧ 20 ≤ N) ∧ t = .int .i64 (k : Int) ∧ u = .int .i64 ((k : Int) + 20) ∧ ∃ l1, Hid (OwnF wr bs (.slice (some ⟨g, 0, none⟩) N cap) l1) ∧ Hid (Mrg (fun x : Flt => x.prio) l l1 0 k) ∧ Hid (KB (fun k => k = g) w wr)
def Stb2F (l : List Flt) (g cap N bs : Nat) (w : World) (s : Value) (wr : World) : Prop :=
  ∃ k : Nat, (k = 20 ∨ k = 40) ∧ s = .int .i64 (k : Int) ∧ ∃ l1, Hid (OwnF wr bs (.slice (some ⟨g, 0, none⟩) N cap) l1) ∧ Hid (l1.Perm l) ∧ Hid (SrtOn (kF (fun x : Flt => x.prio) l1) 0 (min k N)) ∧ Hid (k = 20 → SrtOn (kF (fun x : Flt => x.prio) l1) 20 N) ∧ Hid (KB (fun k => k = g) w wr)
theorem stbF_any (l : List Flt) (g cap N bs : Nat) (w : World) (h : OwnF w bs (.slice (some ⟨g, 0, none⟩) N cap) l) (hN : N ≤ 39) :
    Calls Tryd.prog 78 #[(.slice (some ⟨g, 0, none⟩) N cap), .int .i64 (N : Int), .func (.func 54) #[] #[]] w (FinAns (fun w' l' => OwnF w' bs (.slice (some ⟨g, 0, none⟩) N cap) l') (fun x : Flt => x.prio) l (fun k => k = g) w) := by
  have hl0 := Lib.hid (rowF_len h)
  have HO := Lib.hid h
  clear h
  go_enter Tryd.func78, Tryd.ntmps78
  go_wp2_with fail
  go_loopw [7, 8] (fun t u wr => Stb1F l g cap N bs w t u wr) (fun t _ _ => 60 - (intOf t).toNat)
  case atStart => exact ⟨0, .inl rfl, rfl, rfl, l, HO.out, Mrg.same (SrtOn.small _ (by omega)), KB.refl _ _⟩
  case round =>
    obtain ⟨k, hk, rfl, rfl, l1, HO1, HM, HK⟩ := hrel
    obtain ⟨w1, rfl⟩ : ∃ x : World, x = wr := ⟨_, rfl⟩
    by_cases hlt : k + 20 ≤ N
    · obtain rfl : k = 0 := by omega
      have hltz : (20 : Int) ≤ (N : Int) := by omega
      go_wp2_with fail
      refine (insF_any l1 g cap N bs 0 20 _ HO1.out (by omega) (by omega) (by omega)).mono ?_
      rintro e w2 ⟨rfl, l2, O2, M2, k2⟩
      have HO2 := Lib.hid O2
      have HM2 := Lib.hid M2
      have HK2 := Lib.hid (HK.out.same k2)
      clear O2 M2 k2
      go_wp2_with fail
      go_roundw
      case rel =>
        refine ⟨20, .inr ⟨rfl, by omega⟩, rfl, rfl, l2, HO2.out, ?_, HK2.out⟩
        exact ⟨HM2.out.1.trans HM.out.1, HM2.out.2.1, fun t ht => (HM2.out.2.2.1 t ht).trans (HM.out.2.2.1 t (by omega)), fun t h1 h2 => by
          obtain ⟨s, p, q, r⟩ := HM2.out.2.2.2 t h1 h2
          exact ⟨s, p, q, r.trans (HM.out.2.2.1 s (by omega))⟩⟩
      case measure => (simp [intOf]; try omega)
    · have hltz : ¬ (k : Int) + 20 ≤ (N : Int) := by omega
      have hkN : k ≤ N := by omega
      go_wp2_with fail
      refine (insF_any l1 g cap N bs k N _ HO1.out hkN (Nat.le_refl _) (by omega)).mono ?_
      rintro e w2 ⟨rfl, l2, O2, M2, k2⟩
      have HO2 := Lib.hid O2
      have HP2 := Lib.hid (M2.1.trans HM.out.1)
      have HS2 := Lib.hid (show SrtOn (kF (fun x : Flt => x.prio) l2) 0 (min 20 N) by
        rcases hk with hk | hk
        · subst hk; rw [show min 20 N = N by omega]; exact M2.2.1
        · rw [show min 20 N = k by omega]
          exact fun i j h1 h2 h3 => by rw [kF_eq (fun x : Flt => x.prio) (M2.2.2.1 i (.inl (by omega))), kF_eq (fun x : Flt => x.prio) (M2.2.2.1 j (.inl (by omega)))]; exact HM.out.2.1 i j h1 h2 h3)
      have HT2 := Lib.hid (show SrtOn (kF (fun x : Flt => x.prio) l2) 20 N by
        rcases hk with hk | hk
        · exact SrtOn.small _ (by omega)
        · rw [← hk.1]; exact M2.2.1)
      have HK2 := Lib.hid (HK.out.same k2)
      clear O2 M2 k2
      go_wp2_with fail
      go_loopw [6, 7, 8, 9] (fun s t u v wr => Stb2F l g cap N bs w s wr) (fun s t u v _ => 60 - (intOf s).toNat)
      case atStart => exact ⟨20, .inl rfl, rfl, l2, HO2.out, HP2.out, HS2.out, Lib.hid (fun _ => HT2.out), HK2.out⟩
      case round =>
        obtain ⟨q, hq, rfl, l3, HO3, HP3, HS3, HT3, HK3⟩ := hrel
        obtain ⟨w3, rfl⟩ : ∃ x : World, x = wr := ⟨_, rfl⟩
        by_cases hqN : q < N
        · obtain rfl : q = 20 := by omega
          have hqz : (20 : Int) < (N : Int) := by omega
          have hq40 : ¬ (40 : Int) ≤ (N : Int) := by omega
          go_wp2_with fail
          go_loopw [7, 8] (fun t u wr => t = .int .i64 0 ∧ u = .int .i64 40 ∧ w3 = wr) (fun t u _ => 0)
          case atStart => exact ⟨rfl, rfl, rfl⟩
          case round =>
            obtain ⟨rfl, rfl, rfl⟩ := hrel
            go_wp2_with fail
            refine (symF_any g cap N bs (by omega) (N + 1) l3 0 20 N _ (by omega) (by omega) (by omega) (Nat.le_refl _) HO3.out (by have := HS3.out; rwa [show min 20 N = 20 by omega] at this) (HT3.out (by first | trivial | rfl))).mono ?_
            rintro e w4 ⟨rfl, l4, O4, M4, k4⟩
            have HO4 := Lib.hid O4
            have HM4 := Lib.hid M4
            have HK4 := Lib.hid (HK3.out.same k4)
            clear O4 M4 k4
            go_wp2_with fail
            go_roundw
            case rel => exact ⟨40, .inr rfl, rfl, l4, HO4.out, HM4.out.1.trans HP3.out, by rw [show min 40 N = N by omega]; exact HM4.out.2.1, Lib.hid (fun h => absurd h (by decide)), HK4.out⟩
            case measure => (simp [intOf]; try omega)
        · have hqz : ¬ (q : Int) < (N : Int) := by omega
          go_wp2_with fail
          go_end0
          exact ⟨rfl, l3, HO3.out, HP3.out, by rw [hl0.out]; have := HS3.out; rwa [show min q N = N by omega] at this, HK3.out⟩
theorem sortF_any (l : List Flt) (v : Value) (bs : Nat) (w : World) (h : OwnF w bs v l) (hN : l.length ≤ 39) :
    Calls Tryd.prog 53 #[v, .func (.func 54) #[] #[]] w (FinAns (fun w' l' => OwnF w' bs v l') (fun x : Flt => x.prio) l (fun k => v.ownBlock = some k) w) := by
  by_cases h0 : 0 < l.length
  · obtain ⟨g, cap, cells, rfl, hb, hglt, _⟩ := Own.blk h h0
    have HO := Lib.hid h
    clear h
    go_enter Tryd.func53, Tryd.ntmps53
    go_wp2_with fail
    refine (stbF_any l g cap l.length bs _ HO.out hN).mono ?_
    rintro e w1 ⟨rfl, l1, O1, p1, s1, k1⟩
    go_wp2_with fail
    go_end0
    exact ⟨rfl, l1, O1, p1, s1, KB.mono k1 (fun i hi => by subst hi; rfl)⟩
  · obtain ⟨A0, c, hv, _, _⟩ := Own.rd h Flt.len
    have hl : l.length = 0 := by omega
    rw [hl] at hv
    subst hv
    have HO := Lib.hid h
    have HL := Lib.hid hl
    clear h hl
    go_enter Tryd.func53, Tryd.ntmps53
    go_wp2_with fail
    refine (stb0F_any A0 c _).mono ?_
    rintro e w1 ⟨rfl, rfl⟩
    go_wp2_with fail
    go_end0
    exact ⟨rfl, l, HO.out, List.Perm.refl _, by rw [HL.out]; exact SrtOn.small _ (by omega), KB.refl _ _⟩
end Go.Proofs.YtbbenppmfmphfaaDoor
