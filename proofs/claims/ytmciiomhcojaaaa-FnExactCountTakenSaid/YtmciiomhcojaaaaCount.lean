/- How many values a filter takes. -/
import Derived.Test.YtmciiomhcojaaaaCountP
namespace Go.Proofs.Ytmciiomhcojaaaa
open Go.RowKit
set_option maxHeartbeats 1000000
set_option linter.unusedSimpArgs false
set_option linter.unusedVariables false

theorem bits_OnesCount64_any (x : Int) (w : World) (h0 : 0 ≤ x) (h1 : x ≤ 65535) :
    Calls Try.prog 56 #[.int .u64 x] w fun e w' => e = .returned (.int .i64 (pcI x)) ∧ w = w' := by
  go_enter Try.func56, Try.ntmps56
  go_wp2
  go_ret
  exact ⟨rfl, rfl⟩
theorem bits_OnesCount_any (x : Int) (w : World) (h0 : 0 ≤ x) (h1 : x ≤ 65535) :
    Calls Try.prog 50 #[.int .u64 x] w fun e w' => e = .returned (.int .i64 (pcI x)) ∧ w = w' := by
  go_enter Try.func50, Try.ntmps50
  go_wp2_with (go_at_call 56; refine (bits_OnesCount64_any _ _ (by omega) (by omega)).mono ?_; rintro e w' ⟨rfl, rfl⟩)
  go_ret
  exact ⟨rfl, rfl⟩
def cntV (k m v : Int) : Int := if fltB k m v then cnt m.toNat 16 else 0

theorem impl_CountTaken_any (p k m v t : Int) (w : World) :
    Calls Try.prog 27 #[fltV p k m v t] w fun e w' => e = .returned (.tuple #[.int .i64 (cntV k m v), .bool (fltB k m v)]) ∧ Ext w w' := by
  by_cases hf : fltB k m v = true
  · obtain ⟨_, hm, _, _⟩ := fltB_parts hf
    rw [inR_iff] at hm
    obtain ⟨m0, m1⟩ := hm
    obtain ⟨n, rfl⟩ := Int.eq_ofNat_of_zero_le m0
    have hch := chk_at n (by omega)
    have hp := pcI_nat n (by omega)
    have HV := Lib.hid (show cntV k n v = (2 ^ (16 - pcN n) : Nat) by simp [cntV, hf, hch.2])
    have h16 : (pcN n : Int) ≤ 16 := by omega
    have hle : (2 ^ (16 - pcN n) : Nat) ≤ 65536 := by rw [hch.2]; exact cnt_le n 16
    have HW := Lib.hid (show wrap64 ((2 : Int) ^ (16 - pcN n)) = ((2 ^ (16 - pcN n) : Nat) : Int) by
      have he : (2 : Int) ^ (16 - pcN n) = ((2 ^ (16 - pcN n) : Nat) : Int) := by simp
      rw [he]
      exact IntWalk.wrap64_in _ ⟨by omega, by omega⟩)
    clear hch hle
    go_enter Try.func27, Try.ntmps27
    go_wp2_with (first | (go_at_call 45; refine (impl_isMatch_any _ _ _ _ _ _ ).mono ?_; rintro e w' ⟨rfl, hb⟩; (try (replace hb := Ext.trans (by assumption) hb)); have hc := Ext.cells hb; have hz := Ext.frozens hb; have hs := Ext.lts hb; have hs0 : w.heap.size < w'.heap.size := Ext.lts hb _ (by simp <;> omega); have hc0 : ∀ o, w'.cell? ⟨w.heap.size, o, none⟩ = _ := fun o => Ext.cells hb _ o (by simp <;> omega); have hz0 : ∀ o, w'.frozen? ⟨w.heap.size, o, none⟩ = _ := fun o => Ext.frozens hb _ o (by simp <;> omega); clear hc hz) | (go_at_call 50; refine (bits_OnesCount_any _ _ (by omega) (by omega)).mono ?_; rintro e w' ⟨rfl, rfl⟩))
    go_ret2
    refine ⟨?_, ?_⟩
    · rw [HV.out, ← HW.out, hf]
      rfl
    · (repeat (first | (with_reducible exact Ext.refl _) | (with_reducible assumption) | (with_reducible apply Ext.alloc) | (with_reducible apply Ext.drew) | (with_reducible apply Ext.drewN) | ((with_reducible refine Ext.setCell ?_ ?_ _); rotate_left; (focus (first | (simp; done) | (simp; omega) | omega))) | (with_reducible refine Ext.trans ?_ (by assumption))))
  · replace hf : fltB k m v = false := by simpa using hf
    go_enter Try.func27, Try.ntmps27
    go_wp2_with (first | (go_at_call 45; refine (impl_isMatch_any _ _ _ _ _ _ ).mono ?_; rintro e w' ⟨rfl, hb⟩; (try (replace hb := Ext.trans (by assumption) hb)); have hc := Ext.cells hb; have hz := Ext.frozens hb; have hs := Ext.lts hb; have hs0 : w.heap.size < w'.heap.size := Ext.lts hb _ (by simp <;> omega); have hc0 : ∀ o, w'.cell? ⟨w.heap.size, o, none⟩ = _ := fun o => Ext.cells hb _ o (by simp <;> omega); have hz0 : ∀ o, w'.frozen? ⟨w.heap.size, o, none⟩ = _ := fun o => Ext.frozens hb _ o (by simp <;> omega); clear hc hz))
    go_ret2
    refine ⟨by simp [cntV, hf], ?_⟩
    (repeat (first | (with_reducible exact Ext.refl _) | (with_reducible assumption) | (with_reducible apply Ext.alloc) | (with_reducible apply Ext.drew) | (with_reducible apply Ext.drewN) | ((with_reducible refine Ext.setCell ?_ ?_ _); rotate_left; (focus (first | (simp; done) | (simp; omega) | omega))) | (with_reducible refine Ext.trans ?_ (by assumption))))
set_option maxRecDepth 100000 in
theorem spec_CountTaken_any (p k m v t : Int) (w : World) :
    Calls Try.prog 26 #[fltV p k m v t] w fun e w' => e = .returned (.tuple #[.int .i64 (cntV k m v), .bool (fltB k m v)]) ∧ Ext w w' := by
  by_cases hf : fltB k m v = true
  · obtain ⟨_, hm, _, _⟩ := fltB_parts hf
    rw [inR_iff] at hm
    obtain ⟨m0, m1⟩ := hm
    obtain ⟨n, rfl⟩ := Int.eq_ofNat_of_zero_le m0
    have HV := Lib.hid (show cntV k n v = (cnt n 16 : Nat) by simp [cntV, hf])
    go_enter Try.func26, Try.ntmps26
    go_wp2_with (first | (go_at_call 43; refine (spec_fiGood_any _ _ _ _ _ _).mono ?_; rintro e w1 ⟨rfl, hb1⟩))
    have hx : Ext w w1 := Ext.trans ((Ext.refl _).alloc _) hb1
    have hc : w1.cell? ⟨w.heap.size, 2, none⟩ = some (.int .i64 n) := by rw [Ext.cell hb1 (by simp)]; simp
    go_loop [4, 5] (fun s b => ∃ j B : Nat, j ≤ 16 ∧ Hid (B = 2 ^ j) ∧ (B : Int) ≤ 65536 ∧ (1 : Int) ≤ (B : Int) ∧ b = .int .i64 (B : Int) ∧ s = .int .i64 (cnt n j : Nat)) (fun _ b => 65536 - (intOf b).toNat)
    case atStart => exact ⟨0, 1, by omega, rfl, by omega, by omega, rfl, rfl⟩
    case round =>
      obtain ⟨j, B, hj, hB, hB1, hB0, rfl, rfl⟩ := hrel
      have hcl : ((cnt n j : Nat) : Int) ≤ 65536 := by have := cnt_le n j; omega
      have hcl0 : (0 : Int) ≤ ((cnt n j : Nat) : Int) := by omega
      by_cases hlt : (B : Int) < 65536
      · have hj16 : j < 16 := by
          rcases Nat.lt_or_ge j 16 with h | h
          · exact h
          · have : j = 16 := by omega
            have h2 := hB.out
            rw [this] at h2
            omega
        have hB2 : (B : Int) ≤ 32768 := by
          have h2 := hB.out
          have : 2 ^ j ≤ 2 ^ 15 := Nat.pow_le_pow_right (by omega) (by omega)
          omega
        have ha := i64_and' n B (by omega) (by omega)
        have HS := Lib.hid (show cnt n (j + 1) = if n &&& B = 0 then cnt n j else cnt n j / 2 by rw [hB.out]; rfl)
        have hp : 2 * B = 2 ^ (j + 1) := by rw [Nat.pow_succ, hB.out]; omega
        have HP := Lib.hid hp
        clear hp
        by_cases hz : n &&& B = 0
        · have ha' : (bits .and .i64 (n : Int) (B : Int) != 0) = false := by rw [ha, hz]; rfl
          clear ha
          go_wp2
          go_round
          case rel => exact ⟨j + 1, 2 * B, by omega, HP.out, by omega, by omega, by go_num, by rw [HS.out, if_pos hz]⟩
          case measure => simp [intOf]; omega
        · have ha' : (bits .and .i64 (n : Int) (B : Int) != 0) = true := by rw [ha, bne_iff_ne]; omega
          clear ha
          have HZ := Lib.hid hz
          clear hz
          go_wp2
          go_round
          case rel => exact ⟨j + 1, 2 * B, by omega, HP.out, by omega, by omega, by go_num, by rw [HS.out, if_neg HZ.out]; go_num⟩
          case measure => simp [intOf]; omega
      · have h16 : j = 16 := by
          rcases Nat.lt_or_ge j 16 with h | h
          · have h2 := hB.out
            have : 2 ^ j ≤ 2 ^ 15 := Nat.pow_le_pow_right (by omega) (by omega)
            omega
          · omega
        subst h16
        go_wp2
        go_ret2
        exact ⟨by rw [HV.out]; rfl, hx⟩
  · replace hf : fltB k m v = false := by simpa using hf
    go_enter Try.func26, Try.ntmps26
    go_wp2_with (first | (go_at_call 43; refine (spec_fiGood_any _ _ _ _ _ _ ).mono ?_; rintro e w' ⟨rfl, hb⟩; (try (replace hb := Ext.trans (by assumption) hb)); have hc := Ext.cells hb; have hz := Ext.frozens hb; have hs := Ext.lts hb; have hs0 : w.heap.size < w'.heap.size := Ext.lts hb _ (by simp <;> omega); have hc0 : ∀ o, w'.cell? ⟨w.heap.size, o, none⟩ = _ := fun o => Ext.cells hb _ o (by simp <;> omega); have hz0 : ∀ o, w'.frozen? ⟨w.heap.size, o, none⟩ = _ := fun o => Ext.frozens hb _ o (by simp <;> omega); clear hc hz))
    go_ret2
    refine ⟨by simp [cntV, hf], ?_⟩
    (repeat (first | (with_reducible exact Ext.refl _) | (with_reducible assumption) | (with_reducible apply Ext.alloc) | (with_reducible apply Ext.drew) | (with_reducible apply Ext.drewN) | ((with_reducible refine Ext.setCell ?_ ?_ _); rotate_left; (focus (first | (simp; done) | (simp; omega) | omega))) | (with_reducible refine Ext.trans ?_ (by assumption))))
end Go.Proofs.Ytmciiomhcojaaaa
