/- Texts of numbers: contracts of both sides. -/
import Derived.Test.YtnamgkiealfffaaDoorTxtP
import Derived.Test.YtnamgkiealfffaaDoorShelfI
import Derived.Test.YtnamgkiealfffaaDoorNum
import Derived.Deep.RegionWith
import Derived.Deep.DeepCutAuto
import Derived.Deep.RegionHeld3
namespace Go.Proofs.YtnamgkiealfffaaDoor
open Go.RowKit
set_option maxRecDepth 20000
set_option maxHeartbeats 1000000
set_option linter.unusedSimpArgs false
set_option linter.unusedVariables false

theorem conv_at (w : World) (b : Nat) (x : Int) (h : w.cell? ⟨b, 0, none⟩ = some (.int .u8 x)) : (convert 66 9 (.slice (some ⟨b, 0, none⟩) 1 1)).run Tryd.prog w = .ok (.string (strOfNums [x])) w :=
  run_convert_bytes_arg (P := Tryd.prog) w 66 5 Tryd.underlying66 Tryd.underlying5 b 0 1 1 [x] rfl (fun i hi => by
    match i, hi with
    | 0, _ => simpa using h) 9 Tryd.underlying9
theorem conv_after {w w2 : World} {x : Int} (F : Ext (w.alloc (.cells #[.int .u8 x] 5)).drew w2) : (convert 66 9 (.slice (some ⟨w.heap.size, 0, none⟩) 1 1)).run Tryd.prog w2 = .ok (.string (strOfNums [x])) w2 :=
  conv_at w2 w.heap.size x (by rw [Ext.cell F (by simp)]; simp)
theorem spec_l1Num_any : ∀ (f : Nat) (n : Int) (w : World), 0 ≤ n → n < 10000000000 → n < f →
    Calls Tryd.prog 35 #[.int .i64 n] w fun e w' => e = .returned (.string (dec n)) ∧ Ext w w'
  | 0, n, w, h0, h1, hf => by omega
  | f + 1, n, w, h0, h1, hf => by
    by_cases h9 : n < 10
    · have hd := dec_one h0 h9
      have hcv := conv_at (w.alloc (.cells #[.int .u8 (48 + n)] 5)) w.heap.size (48 + n) (by simp)
      go_enter Tryd.func35, Tryd.ntmps35
      go_wp2
      go_ret
      exact ⟨rfl, by (repeat (first | (with_reducible exact Ext.refl _) | (with_reducible assumption) | (with_reducible apply Ext.alloc) | (with_reducible apply Ext.drew) | (with_reducible apply Ext.drewN) | ((with_reducible refine Ext.setCell ?_ ?_ _); rotate_left; (focus (first | (simp; done) | (simp; omega) | omega))) | (with_reducible refine Ext.trans ?_ (by assumption))))⟩
    · have hd := dec_step (n := n) (by omega)
      have HD := Lib.hid hd
      have ih := spec_l1Num_any f (n / 10)
      have s1 := dec_size (n := n / 10) (by omega)
      have s2 := one_size (48 + n % 10)
      clear hd
      have hcv := fun (w : World) => conv_at (w.alloc (.cells #[.int .u8 (48 + n % 10)] 5)) w.heap.size (48 + n % 10) (by simp)
      have hcw := fun (w : World) => conv_at (w.alloc (.cells #[.int .u8 (48 + n % 10)] 5)).drew w.heap.size (48 + n % 10) (by simp)
      go_enter Tryd.func35, Tryd.ntmps35
      go_wp2_with fail
      have hq : IntKind.i64.wrap (n.tdiv 10) = n / 10 := by
        rw [Int.tdiv_eq_ediv_of_nonneg h0, IntKind.wrap_i64]
        omega
      have hr : n.tmod 10 = n % 10 := Int.tmod_eq_emod_of_nonneg h0
      have ha : IntKind.i64.wrap (48 + n % 10) = 48 + n % 10 := by
        rw [IntKind.wrap_i64]
        omega
      have hb : IntKind.u8.wrap (48 + n % 10) = 48 + n % 10 := by rw [IntKind.wrap_u8]; omega
      go_region_with (first | (go_at_call 35; refine (ih _ ?_ ?_ ?_).mono ?_; omega; omega; omega; rintro e w2 ⟨rfl, F2⟩; first | (have hcx := conv_after F2) | skip))
      all_goals
        go_wp2
        go_ret
        exact ⟨by rw [← HD.out]; rfl, by (repeat (first | (with_reducible exact Ext.refl _) | (with_reducible assumption) | (with_reducible apply Ext.alloc) | (with_reducible apply Ext.drew) | (with_reducible apply Ext.drewN) | ((with_reducible refine Ext.setCell ?_ ?_ _); rotate_left; (focus (first | (simp; done) | (simp; omega) | omega))) | (with_reducible refine Ext.trans ?_ (by assumption))))⟩
end Go.Proofs.YtnamgkiealfffaaDoor
