/- The pieces of a packet. -/
import Derived.Test.YtmciiomhcojaaaaPF2
import Derived.Test.YtmciiomhcojaaaaInts
namespace Go.Proofs.Ytmciiomhcojaaaa
open Go.RowKit
set_option maxHeartbeats 400000
set_option linter.unusedSimpArgs false
set_option linter.unusedVariables false

/-- The pieces of n, each at most m (f: fuel). -/
def pieces : Nat → Int → Int → List Int
  | 0, _, _ => []
  | f + 1, n, m => if n ≤ 0 then [] else (min n m) :: pieces f (n - m) m
theorem pieces_zero (f : Nat) (n m : Int) (h : n ≤ 0) : pieces f n m = [] := by cases f <;> simp [pieces, h]
theorem pieces_len : ∀ (f : Nat) (n m : Int), (pieces f n m).length ≤ f
  | 0, _, _ => by simp [pieces]
  | f + 1, n, m => by
    unfold pieces
    split
    · simp
    · have := pieces_len f (n - m) m
      simp; omega
def pcB (a b c d e f k : Int) : Bool := pktB a b c d e f && inR k 1 1500
def pcV (a b c d e f k : Int) : List Int := if pcB a b c d e f k then pieces 1500 f k else []
theorem pcV_len (a b c d e f k : Int) : (pcV a b c d e f k).length ≤ 1500 := by
  unfold pcV
  split
  · exact pieces_len _ _ _
  · simp
theorem spec_l1Least_any (a b : Int) (w : World) :
    Calls Try.prog 51 #[.int .i64 a, .int .i64 b] w fun e w' => e = .returned (.int .i64 (min a b)) ∧ w = w' := by
  go_enter Try.func51, Try.ntmps51
  go_wp2
  all_goals (go_ret; refine ⟨?_, rfl⟩; show Ending.returned (Value.int .i64 _) = _; congr 2; omega)

theorem pieces_pos (n : Nat) (left k : Int) (h : 0 < left) : pieces (n + 1) left k = min left k :: pieces n (left - k) k := by
  show (if left ≤ 0 then _ else _) = _
  rw [if_neg (by omega)]
theorem spec_PiecesOf_any (a b c d e f k : Int) (w : World) :
    Calls Try.prog 28 #[pktV a b c d e f, .int .i64 k] w fun en w' => ∃ v, en = .returned (.tuple #[v, .bool (pcB a b c d e f k)]) ∧ OwnI w' w.heap.size 3 v (pcV a b c d e f k) ∧ Ext w w' := by
  by_cases hp : pktB a b c d e f = true
  · by_cases hk : inR k 1 1500 = true
    · obtain ⟨k0, k1⟩ := inR_iff.1 hk
      obtain ⟨f0, f1⟩ := inR_iff.1 (pktB_parts hp).2.2.2.2.2
      have hq : pcB a b c d e f k = true := by simp [pcB, hp, hk]
      have hv : pcV a b c d e f k = pieces 1500 f k := by simp [pcV, hq]
      rw [hv, hq]
      clear hv hq
      go_enter Try.func28, Try.ntmps28
      go_wp2_with (first | (go_at_call 33; refine (spec_pkGood_any _ _ _ _ _ _ _).mono ?_; rintro e w2 ⟨rfl, hb2⟩; have hs2 : w.heap.size < w2.heap.size := Ext.lts hb2 _ (by simp); have hc2 : ∀ o, w2.cell? ⟨w.heap.size, o, none⟩ = _ := fun o => Ext.cells hb2 _ o (by simp); have hx2 : Ext w w2 := Ext.trans ((Ext.refl _).alloc _) hb2) | (go_at_call 34; refine (spec_l1In_any _ _ _ _ ).mono ?_; rintro e w' ⟨rfl, rfl⟩))
      go_loopw [6, 7] (fun s t wr => ∃ (n : Nat) (left : Int) (acc : List Int), t = .int .i64 left ∧ left ≤ n ∧ -1500 ≤ left ∧ n ≤ 1500 ∧ acc.length + n ≤ 1500 ∧ OwnI wr w.heap.size 3 s acc ∧ Hid (pieces 1500 f k = acc ++ pieces n left k) ∧ Ext w wr) (fun _ t _ => (1500 + intOf t).toNat)
      case atStart => exact ⟨1500, f, [], rfl, by omega, by omega, by omega, by simp, by first | exact nil_own _ _ _ | exact World.ownsRow_lit _ _ 0 (Ext.size hx2) (by unfold maxLen; omega) rfl, by show _ = _; simp, by first | exact hx2 | exact hx2.alloc _⟩
      case round =>
        clear hc2
        obtain ⟨n, left, acc, rfl, h1, h2, h3, h4, hown, hacc, hx⟩ := hrel
        by_cases hpos : 0 < left
        · go_wp2_with (first | (go_at_call 51; refine (spec_l1Least_any _ _ _ ).mono ?_; rintro e w' ⟨rfl, rfl⟩) | (at_builtin; refine app_int hown (by omega) hx rfl rfl rfl rfl ?_; intro v1 w1 hown1 hx1))
          have HO := Lib.hid hown1
          clear hown hown1
          go_wp2
          obtain ⟨m, rfl⟩ : ∃ m, n = m + 1 := ⟨n - 1, by omega⟩
          go_roundw
          case rel => exact ⟨m, left - k, acc ++ [min left k], rfl, by omega, by omega, by omega, by simp; omega, (by first | exact HO.out | (have h := HO.out; rw [show (if k < left then k else left) = min left k by omega] at h; exact h)), by have := hacc.out; rw [pieces_pos m left k hpos] at this; show _ = _; rw [this]; simp, hx1⟩
          case measure => simp [intOf]; omega
        · go_wp2
          go_ret2
          refine ⟨_, rfl, ?_, hx⟩
          have := hacc.out
          rw [pieces_zero n left k (by omega), List.append_nil] at this
          rw [this]
          exact hown
    · replace hk : inR k 1 1500 = false := by simpa using hk
      have hk' := inR_not.1 hk
      have hq : pcB a b c d e f k = false := by simp [pcB, hk]
      have hv : pcV a b c d e f k = [] := by simp [pcV, hq]
      rw [hv, hq]
      clear hv hq
      go_enter Try.func28, Try.ntmps28
      go_wp2_with (first | (go_at_call 33; refine (spec_pkGood_any _ _ _ _ _ _ _).mono ?_; rintro e w2 ⟨rfl, hb2⟩) | (go_at_call 34; refine (spec_l1In_any _ _ _ _ ).mono ?_; rintro e w' ⟨rfl, rfl⟩))
      all_goals (go_ret2; refine ⟨_, rfl, nil_own _ _ _, ?_⟩; (repeat (first | (with_reducible exact Ext.refl _) | (with_reducible assumption) | (with_reducible apply Ext.alloc) | (with_reducible apply Ext.drew) | (with_reducible apply Ext.drewN) | ((with_reducible refine Ext.setCell ?_ ?_ _); rotate_left; (focus (first | (simp; done) | (simp; omega) | omega))) | (with_reducible refine Ext.trans ?_ (by assumption)))))
  · replace hp : pktB a b c d e f = false := by simpa using hp
    have hq : pcB a b c d e f k = false := by simp [pcB, hp]
    have hv : pcV a b c d e f k = [] := by simp [pcV, hq]
    rw [hv, hq]
    clear hv hq
    go_enter Try.func28, Try.ntmps28
    go_wp2_with (first | (go_at_call 33; refine (spec_pkGood_any _ _ _ _ _ _ _).mono ?_; rintro e w2 ⟨rfl, hb2⟩) | (go_at_call 34; refine (spec_l1In_any _ _ _ _ ).mono ?_; rintro e w' ⟨rfl, rfl⟩))
    all_goals (go_ret2; refine ⟨_, rfl, nil_own _ _ _, ?_⟩; (repeat (first | (with_reducible exact Ext.refl _) | (with_reducible assumption) | (with_reducible apply Ext.alloc) | (with_reducible apply Ext.drew) | (with_reducible apply Ext.drewN) | ((with_reducible refine Ext.setCell ?_ ?_ _); rotate_left; (focus (first | (simp; done) | (simp; omega) | omega))) | (with_reducible refine Ext.trans ?_ (by assumption)))))
theorem impl_PiecesOf_any (a b c d e f k : Int) (w : World) :
    Calls Try.prog 29 #[pktV a b c d e f, .int .i64 k] w fun en w' => ∃ v, en = .returned (.tuple #[v, .bool (pcB a b c d e f k)]) ∧ OwnI w' w.heap.size 3 v (pcV a b c d e f k) ∧ Ext w w' := by
  by_cases hp : pktB a b c d e f = true
  · by_cases hk : inR k 1 1500 = true
    · obtain ⟨k0, k1⟩ := inR_iff.1 hk
      obtain ⟨f0, f1⟩ := inR_iff.1 (pktB_parts hp).2.2.2.2.2
      have hq : pcB a b c d e f k = true := by simp [pcB, hp, hk]
      have hv : pcV a b c d e f k = pieces 1500 f k := by simp [pcV, hq]
      rw [hv, hq]
      clear hv hq
      go_enter Try.func29, Try.ntmps29
      go_wp2_with (first | (go_at_call 36; refine (impl_IsPacket_any _ _ _ _ _ _ _).mono ?_; rintro e w2 ⟨rfl, hb2⟩; have hs2 : w.heap.size < w2.heap.size := Ext.lts hb2 _ (by simp); have hc2 : ∀ o, w2.cell? ⟨w.heap.size, o, none⟩ = _ := fun o => Ext.cells hb2 _ o (by simp); have hx2 : Ext w w2 := Ext.trans ((Ext.refl _).alloc _) hb2) | (go_at_call 34; refine (spec_l1In_any _ _ _ _ ).mono ?_; rintro e w' ⟨rfl, rfl⟩))
      go_loopw [6, 7] (fun s t wr => ∃ (n : Nat) (left : Int) (acc : List Int), t = .int .i64 left ∧ left ≤ n ∧ -1500 ≤ left ∧ n ≤ 1500 ∧ acc.length + n ≤ 1500 ∧ OwnI wr w.heap.size 3 s acc ∧ Hid (pieces 1500 f k = acc ++ pieces n left k) ∧ Ext w wr) (fun _ t _ => (1500 + intOf t).toNat)
      case atStart => exact ⟨1500, f, [], rfl, by omega, by omega, by omega, by simp, by first | exact nil_own _ _ _ | exact World.ownsRow_lit _ _ 0 (Ext.size hx2) (by unfold maxLen; omega) rfl, by show _ = _; simp, by first | exact hx2 | exact hx2.alloc _⟩
      case round =>
        clear hc2
        obtain ⟨n, left, acc, rfl, h1, h2, h3, h4, hown, hacc, hx⟩ := hrel
        by_cases hpos : 0 < left
        · go_wp2_with (first | (go_at_call 51; refine (spec_l1Least_any _ _ _ ).mono ?_; rintro e w' ⟨rfl, rfl⟩) | (at_builtin; refine app_int hown (by omega) hx rfl rfl rfl rfl ?_; intro v1 w1 hown1 hx1))
          have HO := Lib.hid hown1
          clear hown hown1
          go_wp2
          obtain ⟨m, rfl⟩ : ∃ m, n = m + 1 := ⟨n - 1, by omega⟩
          go_roundw
          case rel => exact ⟨m, left - k, acc ++ [min left k], rfl, by omega, by omega, by omega, by simp; omega, (by first | exact HO.out | (have h := HO.out; rw [show (if k < left then k else left) = min left k by omega] at h; exact h)), by have := hacc.out; rw [pieces_pos m left k hpos] at this; show _ = _; rw [this]; simp, hx1⟩
          case measure => simp [intOf]; omega
        · go_wp2
          go_ret2
          refine ⟨_, rfl, ?_, hx⟩
          have := hacc.out
          rw [pieces_zero n left k (by omega), List.append_nil] at this
          rw [this]
          exact hown
    · replace hk : inR k 1 1500 = false := by simpa using hk
      have hk' := inR_not.1 hk
      have hq : pcB a b c d e f k = false := by simp [pcB, hk]
      have hv : pcV a b c d e f k = [] := by simp [pcV, hq]
      rw [hv, hq]
      clear hv hq
      go_enter Try.func29, Try.ntmps29
      go_wp2_with (first | (go_at_call 36; refine (impl_IsPacket_any _ _ _ _ _ _ _).mono ?_; rintro e w2 ⟨rfl, hb2⟩) | (go_at_call 34; refine (spec_l1In_any _ _ _ _ ).mono ?_; rintro e w' ⟨rfl, rfl⟩))
      all_goals (go_ret2; refine ⟨_, rfl, nil_own _ _ _, ?_⟩; (repeat (first | (with_reducible exact Ext.refl _) | (with_reducible assumption) | (with_reducible apply Ext.alloc) | (with_reducible apply Ext.drew) | (with_reducible apply Ext.drewN) | ((with_reducible refine Ext.setCell ?_ ?_ _); rotate_left; (focus (first | (simp; done) | (simp; omega) | omega))) | (with_reducible refine Ext.trans ?_ (by assumption)))))
  · replace hp : pktB a b c d e f = false := by simpa using hp
    have hq : pcB a b c d e f k = false := by simp [pcB, hp]
    have hv : pcV a b c d e f k = [] := by simp [pcV, hq]
    rw [hv, hq]
    clear hv hq
    go_enter Try.func29, Try.ntmps29
    go_wp2_with (first | (go_at_call 36; refine (impl_IsPacket_any _ _ _ _ _ _ _).mono ?_; rintro e w2 ⟨rfl, hb2⟩) | (go_at_call 34; refine (spec_l1In_any _ _ _ _ ).mono ?_; rintro e w' ⟨rfl, rfl⟩))
    all_goals (go_ret2; refine ⟨_, rfl, nil_own _ _ _, ?_⟩; (repeat (first | (with_reducible exact Ext.refl _) | (with_reducible assumption) | (with_reducible apply Ext.alloc) | (with_reducible apply Ext.drew) | (with_reducible apply Ext.drewN) | ((with_reducible refine Ext.setCell ?_ ?_ _); rotate_left; (focus (first | (simp; done) | (simp; omega) | omega))) | (with_reducible refine Ext.trans ?_ (by assumption)))))
end Go.Proofs.Ytmciiomhcojaaaa
