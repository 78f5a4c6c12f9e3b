/- Contracts: leaves of a configuration. -/
import Derived.Test.YtidahgoihgodnaaDoorLeaf
namespace Go.Proofs.YtidahgoihgodnaaDoor
open Go.RowKit
set_option maxRecDepth 20000
set_option maxHeartbeats 1000000
set_option linter.unusedSimpArgs false
set_option linter.unusedVariables false

theorem spec_cfLeaf_any (n : ByteArray) (cv fv : Value) (d : Int) (i : Nat) (cs : List Cls) (w : World) (hc : RdC w cv cs) (hi : i < cs.length) (hcl : cs.length ≤ 1048576) :
    Calls Tryd.prog 37 #[cfgV n cv fv d, .int .i64 (i : Int)] w fun e w' => e = .returned (.bool (leafB cs i)) ∧ Ext w w' := by
  have HC := Lib.hid hc
  clear hc
  have E0 := (Ext.refl w).alloc (.cells #[.string n, cv, fv, .int .i64 d] 30)
  go_enter Tryd.func37, Tryd.ntmps37
  go_wp2_with fail
  refine (spec_cfKids_any n _ fv d i cs _ (HC.out.ext E0) hi hcl).mono ?_
  rintro e w1 ⟨u, rfl, O1, F1⟩
  obtain ⟨A1, c1, rfl, _, _⟩ := Own.rd O1 icell_len
  clear O1
  go_wp2
  go_ret
  exact ⟨rfl, E0.trans F1⟩
theorem isLeaf1_any (x : Cls) (n : ByteArray) (cv fv : Value) (d : Int) (i : Nat) (cs : List Cls) (b1 b2 : Nat) (w : World) (hb : Box w b1 n cv fv d) (h2 : w.cell? ⟨b2, 0, none⟩ = some (.int .i64 (i : Int))) (hb2 : b2 < w.heap.size) (hc : RdC w cv cs) (hi : i < cs.length) (hcl : cs.length ≤ 1048576) :
    Calls Tryd.prog 58 #[clsV x, .pointer (some ⟨b1, 0, none⟩), .pointer (some ⟨b2, 0, none⟩)] w fun e w' => e = .returned (.bool (x.parent == idAt cs i)) ∧ Ext w w' := by
  obtain ⟨CA, cc, rfl, hcc, hrc⟩ := hc
  obtain ⟨b, o, rfl, hbb, hci⟩ := hrc i cs[i] (List.getElem?_eq_getElem hi)
  have c0 : w.cell? ⟨b, o + i * 8, none⟩ = some (.int .i64 (idAt cs i)) := by rw [idAt_is cs i hi]; exact hci 0 _ rfl
  obtain ⟨q0, q1, q2, q3, q4⟩ := hb
  clear hrc hci
  have z0 : b < w.heap.size + 1 := by omega
  have z1 : b1 < w.heap.size + 1 := by omega
  have z2 : b2 < w.heap.size + 1 := by omega
  go_enter Tryd.func58, Tryd.ntmps58
  go_wp2_with fail
  (go_wp2_with fail; refine wp_region_ext (by kernel_rfl) (by kernel_rfl) ?_; (repeat (first | go_big_quiet_step (fail) | quiet_step (fail))); refine wpQuiet_nil ?_; intro wq hbq; have hcq := Ext.cells hbq; have hzq := Ext.frozens hbq; have hsq := Ext.lts hbq)
  go_wp2
  go_ret
  exact ⟨rfl, Ext.trans ((Ext.refl w).alloc _) hbq⟩
theorem impl_isLeaf_1_contains (p : Cls → Bool) (q0 q1 : Value) (v : Value) (cs : List Cls) (w : World) (hc : RdC w v cs) (hcl : cs.length ≤ 1048576)
    (hp : ∀ (x : Cls) (w' : World), Ext w w' → Calls Tryd.prog 58 #[clsV x, q0, q1] w' fun e w'' => e = .returned (.bool (p x)) ∧ Ext w' w'') :
    Calls Tryd.prog 57 #[v, .func (.func 58) #[] #[q0, q1]] w fun e w' => e = .returned (.bool (decide (0 ≤ idxC cs p))) ∧ Ext w w' := by
  have HC := Lib.hid hc
  have HP := Lib.hid hp
  clear hc hp
  go_enter Tryd.func57, Tryd.ntmps57
  go_wp2_with fail
  refine (impl_isLeaf_1_index p _ _ _ cs _ HC.out hcl HP.out).mono ?_
  rintro e w1 ⟨rfl, F1⟩
  go_wp2
  go_ret
  exact ⟨rfl, F1⟩
theorem impl_ratesCountable_1_contains (p : Cls → Bool) (v : Value) (cs : List Cls) (w : World) (hc : RdC w v cs) (hcl : cs.length ≤ 1048576)
    (hp : ∀ (x : Cls) (w' : World), Ext w w' → Calls Tryd.prog 76 #[clsV x] w' fun e w'' => e = .returned (.bool (p x)) ∧ Ext w' w'') :
    Calls Tryd.prog 57 #[v, .func (.func 76) #[] #[]] w fun e w' => e = .returned (.bool (decide (0 ≤ idxC cs p))) ∧ Ext w w' := by
  have HC := Lib.hid hc
  have HP := Lib.hid hp
  clear hc hp
  go_enter Tryd.func57, Tryd.ntmps57
  go_wp2_with fail
  refine (impl_ratesCountable_1_index p _ cs _ HC.out hcl HP.out).mono ?_
  rintro e w1 ⟨rfl, F1⟩
  go_wp2
  go_ret
  exact ⟨rfl, F1⟩
theorem impl_holds_1_contains (p : Cls → Bool) (v : Value) (cs : List Cls) (w : World) (hc : RdC w v cs) (hcl : cs.length ≤ 1048576)
    (hp : ∀ (x : Cls) (w' : World), Ext w w' → Calls Tryd.prog 68 #[clsV x] w' fun e w'' => e = .returned (.bool (p x)) ∧ Ext w' w'') :
    Calls Tryd.prog 57 #[v, .func (.func 68) #[] #[]] w fun e w' => e = .returned (.bool (decide (0 ≤ idxC cs p))) ∧ Ext w w' := by
  have HC := Lib.hid hc
  have HP := Lib.hid hp
  clear hc hp
  go_enter Tryd.func57, Tryd.ntmps57
  go_wp2_with fail
  refine (impl_holds_1_index p _ cs _ HC.out hcl HP.out).mono ?_
  rintro e w1 ⟨rfl, F1⟩
  go_wp2
  go_ret
  exact ⟨rfl, F1⟩
theorem impl_holds_2_contains (p : Cls → Bool) (v : Value) (cs : List Cls) (w : World) (hc : RdC w v cs) (hcl : cs.length ≤ 1048576)
    (hp : ∀ (x : Cls) (w' : World), Ext w w' → Calls Tryd.prog 71 #[clsV x] w' fun e w'' => e = .returned (.bool (p x)) ∧ Ext w' w'') :
    Calls Tryd.prog 57 #[v, .func (.func 71) #[] #[]] w fun e w' => e = .returned (.bool (decide (0 ≤ idxC cs p))) ∧ Ext w w' := by
  have HC := Lib.hid hc
  have HP := Lib.hid hp
  clear hc hp
  go_enter Tryd.func57, Tryd.ntmps57
  go_wp2_with fail
  refine (impl_holds_2_index p _ cs _ HC.out hcl HP.out).mono ?_
  rintro e w1 ⟨rfl, F1⟩
  go_wp2
  go_ret
  exact ⟨rfl, F1⟩
theorem impl_isLeaf_any (n : ByteArray) (cv fv : Value) (d : Int) (i : Nat) (cs : List Cls) (w : World) (hc : RdC w cv cs) (hi : i < cs.length) (hcl : cs.length ≤ 1048576) :
    Calls Tryd.prog 28 #[cfgV n cv fv d, .int .i64 (i : Int)] w fun e w' => e = .returned (.bool (leafB cs i)) ∧ Ext w w' := by
  have HC := Lib.hid hc
  clear hc
  have HL := Lib.hid (leaf_idx cs i)
  have E0 := (Ext.refl w).alloc (.cells #[.string n, cv, fv, .int .i64 d] 30)
  have B0 := Lib.hid ((Box.new w n cv fv d 30).ext ((Ext.refl _).alloc (.cells #[.int .i64 (i : Int)] 3)))
  go_enter Tryd.func28, Tryd.ntmps28
  go_wp2_with fail
  refine (impl_isLeaf_1_contains (fun x => x.parent == idAt cs i) _ _ _ cs _ (HC.out.ext (E0.alloc _)) hcl (fun x w' hx => isLeaf1_any x n cv fv d i cs w.heap.size (w.heap.size + 1) w' (B0.out.ext hx) ((Ext.cell hx (by simp)).trans (by simp)) (Ext.lts hx _ (by simp)) (HC.out.ext ((E0.alloc _).trans hx)) hi hcl)).mono ?_
  rintro e w1 ⟨rfl, F1⟩
  go_wp2
  go_ret
  exact ⟨by rw [HL.out]; rfl, (E0.alloc _).trans F1⟩
end Go.Proofs.YtidahgoihgodnaaDoor
