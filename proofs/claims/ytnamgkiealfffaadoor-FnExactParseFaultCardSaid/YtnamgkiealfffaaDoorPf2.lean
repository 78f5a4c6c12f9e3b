/- The text of a fault: contracts of the program's helpers, and of the reference's text. -/
import Derived.Test.YtnamgkiealfffaaDoorPf
import Derived.Test.YtnamgkiealfffaaDoorShelfP
namespace Go.Proofs.YtnamgkiealfffaaDoor
open Go.RowKit
set_option maxRecDepth 20000
set_option maxHeartbeats 1000000
set_option linter.unusedSimpArgs false
set_option linter.unusedVariables false

theorem row_ext {w w' : World} {b i : Nat} {v : Value} (h : w.cell? ⟨b, i, none⟩ = some v) (hx : Ext w w') : w'.cell? ⟨b, i, none⟩ = some v := by
  rw [Ext.cell hx]
  · exact h
  · rcases Nat.lt_or_ge b w.heap.size with h1 | h1
    · exact h1
    · simp [World.cell?, Array.getElem?_eq_none h1] at h
section
variable {P : Program} {md : Region.Mode} {ops : Array Oper} {Q : Exit → Act → World → Prop} {S S' : World → Prop}
/-- Behind a step more may be held of the world. -/
theorem wpAnyH_strong (hs : ∀ w, S' w → S w) : ∀ (fuel : Nat) (listed : Array Bool) (a : Act) (w : World), wpAnyH P md ops Q S' fuel listed a w → wpAnyH P md ops Q S fuel listed a w
  | 0, _, _, _, h => h
  | fuel + 1, _, _, _, h => ⟨h.1, fun i hi => wpOp_mono (fun a' w' h' => ⟨hs _ h'.1, wpAnyH_strong hs fuel _ a' w' h'.2⟩) (h.2 i hi)⟩
theorem shut_strong {fuel : Nat} {listed : Array Bool} {K : Act → World → Prop} (hs : ∀ w, S' w → S w) (h : Shut (∀ a w, S w → (S w → wpAnyH P md ops Q S fuel listed a w) → K a w)) :
    Shut (∀ a w, S w → (S w → wpAnyH P md ops Q S fuel listed a w) → K a w) = Shut (∀ a w, S' w → (S' w → wpAnyH P md ops Q S' fuel listed a w) → K a w) :=
  propext ⟨fun _ a w h1 h2 => h a w (hs w h1) (fun _ => wpAnyH_strong hs fuel listed a w (h2 h1)), fun _ => h⟩
end
theorem bc2 {w : World} {g : Nat} {T : TypeId} {a0 a1 : Value} (h : Blk w g T #[a0, a1]) : w.cell? ⟨g, 0, none⟩ = some a0 ∧ w.cell? ⟨g, 1, none⟩ = some a1 ∧ g < w.heap.size := by
  have hl := h.lt
  unfold Blk at h
  exact ⟨by simp [World.cell?, h], by simp [World.cell?, h], hl⟩
abbrev fltV (k n : Int) : Value := .agg #[.int .i64 k, .int .i64 n]
theorem spec_erGood_any (k n : Int) (w : World) :
    Calls Tryd.prog 29 #[fltV k n] w fun e w' => e = .returned (.bool (goodF k n)) ∧ Ext w w' := by
  go_enter Tryd.func29, Tryd.ntmps29
  go_wp2_with (go_at_call 22; refine (spec_l1In_any _ _ _ _ ).mono ?_; rintro e w' ⟨rfl, rfl⟩)
  all_goals (go_ret; refine ⟨?_, (Ext.refl _).alloc _⟩; first | (simp [goodF, *]; done) | (simp_all [goodF]; done))
theorem impl_IsFault_any (k n : Int) (w : World) :
    Calls Tryd.prog 47 #[fltV k n] w fun e w' => e = .returned (.bool (goodF k n)) ∧ Ext w w' := by
  go_enter Tryd.func47, Tryd.ntmps47
  go_wp2
  all_goals (go_ret; refine ⟨?_, (Ext.refl _).alloc _⟩; first | (simp [goodF, inR, *]; done) | (simp [goodF, inR, *]; omega))
theorem spec_erShow_any (k : Nat) (n : Int) (w : World) (hk : k < 8) (h0 : 0 ≤ n) (h1 : n ≤ 6000) :
    Calls Tryd.prog 30 #[fltV k n] w fun e w' => e = .returned (.string (shw k n)) ∧ Ext w w' := by
  have s1 := nmK_size (k := k)
  have s2 := dec_size (n := n) (by omega)
  have t0 : ¬ 9223372036854775807 < (nmK k).size + 4 := by omega
  have t1 : ¬ 9223372036854775807 < (nmK k).size + 4 + (dec n).size := by omega
  have k0 : (0 : Int) ≤ (k : Int) := by omega
  have k8 : (k : Int) < 8 := by omega
  have BX := Lib.hid (Blk.new w 36 #[.int .i64 (k : Int), .int .i64 n])
  have E0 := (Ext.refl w).alloc (.cells #[.int .i64 (k : Int), .int .i64 n] 36)
  have D0 := (Ext.refl (w.alloc (.cells #[.int .i64 (k : Int), .int .i64 n] 36))).drew
  obtain ⟨q0, q1, q2⟩ := bc2 (BX.out.ext D0)
  go_enter Tryd.func30, Tryd.ntmps30
  go_wp2_with fail
  go_region_held3 (fun w' => w'.cell? ⟨w.heap.size, 0, none⟩ = some (.int .i64 (k : Int)) ∧ w'.cell? ⟨w.heap.size, 1, none⟩ = some (.int .i64 n)) (first | (with_reducible exact ⟨q0, q1⟩) | (with_reducible exact ⟨q0, q1, rr⟩) | go_keep) (first | (go_at_call 43; refine (spec_erNames_any _).mono ?_; rintro e w2 ⟨b, rfl, hrow, hb, F2⟩; have D2 := Ext.trans (by assumption) F2; obtain ⟨q0, q1, q2⟩ := bc2 (BX.out.ext D2); have rr := hrow k hk; clear hrow; have e := shut_strong (S := fun w' => w'.cell? ⟨w.heap.size, 0, none⟩ = some (.int .i64 (k : Int)) ∧ w'.cell? ⟨w.heap.size, 1, none⟩ = some (.int .i64 n)) (S' := fun w' => w'.cell? ⟨w.heap.size, 0, none⟩ = some (.int .i64 (k : Int)) ∧ w'.cell? ⟨w.heap.size, 1, none⟩ = some (.int .i64 n) ∧ w'.cell? ⟨b, k, none⟩ = some (.string (nmK k))) (fun w' h => ⟨h.1, h.2.1⟩) ‹Shut _›; simp only [e] at *; clear e) | (go_at_call 35; refine (spec_l1Num_any 10000000001 _ _ (by omega) (by omega) (by omega)).mono ?_; rintro e w2 ⟨rfl, F2⟩; have D2 := Ext.trans (by assumption) F2; obtain ⟨q0, q1, q2⟩ := bc2 (BX.out.ext D2); first | (replace rr := row_ext rr F2) | skip))
  go_wp2
  go_ret
  exact ⟨rfl, by (repeat (first | (with_reducible exact Ext.refl _) | (with_reducible assumption) | (with_reducible apply Ext.alloc) | (with_reducible apply Ext.drew) | (with_reducible apply Ext.drewN) | ((with_reducible refine Ext.setCell ?_ ?_ _); rotate_left; (focus (first | (simp; done) | (simp; omega) | omega))) | (with_reducible refine Ext.trans ?_ (by assumption))))⟩
/-- The package's table of the kinds' names lies in its block. -/
def Flts (w : World) : Prop := ∃ t fr, w.heap[0]? = some (.cells kCells t fr)
theorem Flts.ext {w w' : World} (h : Flts w) (hx : Ext w w') : Flts w' := by
  obtain ⟨t, fr, h⟩ := h
  exact ⟨t, fr, (Ext.block hx (lt_of_block h)).trans h⟩
theorem Flts.cell {w : World} (h : Flts w) {k : Nat} (hk : k < 8) : w.cell? ⟨0, k, none⟩ = some (.string (nmK k)) ∧ 0 < w.heap.size := by
  obtain ⟨t, fr, h⟩ := h
  refine ⟨?_, lt_of_block h⟩
  simp only [World.cell?, Option.isSome_none, Bool.false_eq_true, if_false, h]
  exact kCells_get k hk
theorem kind_index (k : Nat) (h : k < 8) : ∀ w : World, (Instr.index 64 (.agg kCells) (.int .i64 (k : Int))).run Tryd.prog w = .ok (.string (nmK k)) w := by
  match k, h with
  | 0, _ => exact fun _ => by kernel_rfl
  | 1, _ => exact fun _ => by kernel_rfl
  | 2, _ => exact fun _ => by kernel_rfl
  | 3, _ => exact fun _ => by kernel_rfl
  | 4, _ => exact fun _ => by kernel_rfl
  | 5, _ => exact fun _ => by kernel_rfl
  | 6, _ => exact fun _ => by kernel_rfl
  | 7, _ => exact fun _ => by kernel_rfl
theorem impl_KindNamed_any (s : ByteArray) (w : World) (hk : Flts w) :
    Calls Tryd.prog 32 #[.string s] w fun e w' => ∃ (r : Int) (ok : Bool), e = .returned (.tuple #[.int .i64 r, .bool ok]) ∧ ((∃ j : Nat, j < 8 ∧ r = (j : Int) ∧ ok = true ∧ nmK j = s) ∨ (ok = false ∧ ∀ j, j < 8 → nmK j ≠ s)) ∧ Ext w w' := by
  obtain ⟨t, fr, hb⟩ := hk
  have HB := Lib.hid hb
  clear hb
  go_enter Tryd.func32, Tryd.ntmps32
  go_wp2_with (refine wpList_load_row rfl 64 (.global 0) rfl 0 rfl t kCells fr _ HB.out Tryd.underlying64 rfl (by kernel_rfl) ?_)
  go_loopw [7] (fun t wr => ∃ k : Nat, k ≤ 8 ∧ t = .int .i64 (k : Int) ∧ Hid (∀ j, j < k → nmK j ≠ s) ∧ Ext w wr) (fun t _ => 8 - (intOf t).toNat)
  case atStart => exact ⟨0, Nat.zero_le _, rfl, Lib.hid (fun j hj => absurd hj (Nat.not_lt_zero _)), Ext.refl _⟩
  case round =>
    obtain ⟨k, hk, rfl, hq, hx⟩ := hrel
    by_cases hlt : k < 8
    · have hix := kind_index k hlt
      generalize hy : nmK k = y at hix
      have HY := Lib.hid hy
      clear hy
      have hk8 : (k : Int) < 8 := by omega
      cases he : (y.toList == s.toList)
      · have HE := Lib.hid (show nmK k ≠ s by rw [HY.out]; exact ne_toList.1 he)
        go_wp2
        go_roundw
        case rel => exact ⟨k + 1, by omega, by go_num, Lib.hid (fun j hj => by
          rcases Nat.lt_or_eq_of_le (Nat.le_of_lt_succ hj) with h | h
          · exact hq.out j h
          · rw [h]; exact HE.out), hx⟩
        case measure => simp [intOf]; omega
      · have HE := Lib.hid (show nmK k = s by rw [HY.out]; exact eq_toList.1 he)
        go_wp2
        refine bodyPost_ret (v := .tuple #[.int .i64 (k : Int), .bool true]) (by simp [results, Tryd.results32, go_sem, *]) rfl ?_
        · exact ⟨_, true, rfl, .inl ⟨k, hlt, rfl, rfl, HE.out⟩, hx⟩
    · obtain rfl : k = 8 := by omega
      go_wp2
      refine bodyPost_ret (v := .tuple #[.int .i64 0, .bool false]) (by simp [results, Tryd.results32, go_sem, *]) rfl ?_
      · exact ⟨_, false, rfl, .inr ⟨rfl, hq.out⟩, hx⟩
theorem impl_FaultText_good (k : Nat) (n : Int) (w : World) (hg : goodF (k : Int) n = true) (hf : Flts w) (hk : PowTab w) :
    Calls Tryd.prog 34 #[fltV k n] w fun e w' => e = .returned (.tuple #[.string (shw k n), .bool true]) ∧ Ext w w' := by
  have hg' := hg
  simp only [goodF, Bool.and_eq_true, inR_iff] at hg'
  obtain ⟨⟨a0, a1⟩, b0, b1⟩ := hg'
  have E0 := (Ext.refl w).alloc (.cells #[.int .i64 (k : Int), .int .i64 n] 36)
  have BX := Lib.hid (Blk.new w 36 #[.int .i64 (k : Int), .int .i64 n])
  have HK := Lib.hid (hk.ext E0)
  have HF := Lib.hid (hf.ext E0)
  have HG := Lib.hid hg
  clear hk hf hg
  have s1 := nmK_size (k := k)
  have s2 := dec_size (n := n) (by omega)
  have k8 : k < 8 := by omega
  have k0 : (0 : Int) ≤ (k : Int) := by omega
  have k8' : (k : Int) < 8 := by omega
  go_enter Tryd.func34, Tryd.ntmps34
  go_wp2_with fail
  refine (impl_IsFault_any _ _ _).mono ?_
  rintro e w1 ⟨rfl, F1⟩
  rw [HG.out]
  obtain ⟨x0, x1, x2⟩ := bc2 (BX.out.ext F1)
  obtain ⟨c0, c1⟩ := Flts.cell (HF.out.ext F1) k8
  (go_wp2_with fail; refine wp_region_ext (by kernel_rfl) (by kernel_rfl) ?_; (repeat (first | go_big_quiet_step ((first | (go_at_call 37; exact calls_later (strconv_Itoa_any _ _ (by omega) (by omega) ((HK.out.ext F1).ext (Later.ext _)))))) | quiet_step ((first | (go_at_call 37; exact calls_later (strconv_Itoa_any _ _ (by omega) (by omega) ((HK.out.ext F1).ext (Later.ext _)))))))); refine wpQuiet_nil ?_; intro wq hbq; (try (replace hbq := Ext.trans (by assumption) hbq)); have hcq := Ext.cells hbq; have hzq := Ext.frozens hbq; have hsq := Ext.lts hbq)
  go_wp2
  (refine bodyPost_ret (v := .tuple #[.string (nmK k ++ ⟨#[32, 97, 116, 32]⟩ ++ dec n), .bool true]) (by simp [results, Tryd.results34, go_sem, *]) rfl ⟨?_, ?_⟩)
  · rfl
  · (repeat (first | (with_reducible exact Ext.refl _) | (with_reducible assumption) | (with_reducible apply Ext.alloc) | (with_reducible apply Ext.drew) | (with_reducible apply Ext.drewN) | ((with_reducible refine Ext.setCell ?_ ?_ _); rotate_left; (focus (first | (simp; done) | (simp; omega) | omega))) | (with_reducible refine Ext.trans ?_ (by assumption))))
theorem impl_FaultText_bad (k n : Int) (w : World) (hg : goodF k n = false) :
    Calls Tryd.prog 34 #[fltV k n] w fun e w' => e = .returned (.tuple #[.string ⟨#[]⟩, .bool false]) ∧ Ext w w' := by
  have HG := Lib.hid hg
  clear hg
  go_enter Tryd.func34, Tryd.ntmps34
  go_wp2_with fail
  refine (impl_IsFault_any _ _ _).mono ?_
  rintro e w1 ⟨rfl, F1⟩
  rw [HG.out]
  go_wp2
  (refine bodyPost_ret (v := .tuple #[.string ⟨#[]⟩, .bool false]) (by simp [results, Tryd.results34, go_sem, *]) rfl ⟨?_, ?_⟩)
  · rfl
  · (repeat (first | (with_reducible exact Ext.refl _) | (with_reducible assumption) | (with_reducible apply Ext.alloc) | (with_reducible apply Ext.drew) | (with_reducible apply Ext.drewN) | ((with_reducible refine Ext.setCell ?_ ?_ _); rotate_left; (focus (first | (simp; done) | (simp; omega) | omega))) | (with_reducible refine Ext.trans ?_ (by assumption))))
end Go.Proofs.YtnamgkiealfffaaDoor
