/- Contracts: the class with an Id. -/
import Derived.Test.YtidahgoihgodnaaDoorProg
import Derived.Test.YtidahgoihgodnaaDoorCfgS
import Derived.Test.YtidahgoihgodnaaDoorCfgP
namespace Go.Proofs.YtidahgoihgodnaaDoor
open Go.RowKit
set_option maxRecDepth 20000
set_option maxHeartbeats 1000000
set_option linter.unusedSimpArgs false
set_option linter.unusedVariables false

def clsAt (cs : List Cls) (k : Nat) (p : Cls → Bool) : Bool := match cs[k]? with
  | some x => p x
  | none => false
theorem clsAt_is (cs : List Cls) (k : Nat) (p : Cls → Bool) (h : k < cs.length) : clsAt cs k p = p cs[k] := by simp [clsAt, h]
/-- The index of the first class with a property, or -1. -/
def idxC (cs : List Cls) (p : Cls → Bool) : Int := fndN (fun k => clsAt cs k p) 0 cs.length
/-- The index of the class with an Id, or -1. -/
def findI (cs : List Cls) (id : Int) : Int := idxC cs (fun x => x.id == id)

theorem spec_cfFind_any (n : ByteArray) (cv fv : Value) (d id : Int) (cs : List Cls) (w : World) (hc : RdC w cv cs) (hcl : cs.length ≤ 1048576) :
    Calls Tryd.prog 22 #[cfgV n cv fv d, .int .i64 id] w fun e w' => e = .returned (.int .i64 (findI cs id)) ∧ Ext w w' := by
  obtain ⟨CA, cc, rfl, hcc, hrc⟩ := hc
  have HR := Lib.hid hrc
  clear hrc
  have E0 := (Ext.refl w).alloc (.cells #[.string n, .slice CA cs.length cc, fv, .int .i64 d] 30)
  go_enter Tryd.func22, Tryd.ntmps22
  go_wp2
  go_loopw [10] (fun t wr => ∃ k : Nat, k ≤ cs.length ∧ t = .int .i64 (k : Int) ∧ Hid (findI cs id = fndN (fun k => clsAt cs k fun x => x.id == id) k (cs.length - k)) ∧ Ext w wr) (fun t _ => cs.length - (intOf t).toNat)
  case atStart => exact ⟨0, Nat.zero_le _, rfl, rfl, E0⟩
  case round =>
    obtain ⟨k, hk, rfl, hq, hx⟩ := hrel
    by_cases hlt : k < cs.length
    · obtain ⟨b, o, rfl, hb, hcell⟩ := HR.out k cs[k] (List.getElem?_eq_getElem hlt)
      have hst := fndN_step (fun k => clsAt cs k fun x => x.id == id) k cs.length hlt
      simp only [clsAt_is cs k _ hlt] at hst
      generalize cs[k] = x at hcell hst
      have HST := Lib.hid hst
      have c0 : wr.cell? ⟨b, o + k * 8, none⟩ = some (.int .i64 x.id) := by rw [Ext.cell hx hb]; exact hcell 0 _ rfl
      have c1 : wr.cell? ⟨b, o + k * 8 + 1, none⟩ = some (.int .i64 x.parent) := by rw [Ext.cell hx hb]; exact hcell 1 _ rfl
      have c2 : wr.cell? ⟨b, o + k * 8 + 2, none⟩ = some (.int .i64 x.rate) := by rw [Ext.cell hx hb]; exact hcell 2 _ rfl
      have c3 : wr.cell? ⟨b, o + k * 8 + 3, none⟩ = some (.int .i64 x.ceil) := by rw [Ext.cell hx hb]; exact hcell 3 _ rfl
      have c4 : wr.cell? ⟨b, o + k * 8 + 4, none⟩ = some (.int .i64 x.burst) := by rw [Ext.cell hx hb]; exact hcell 4 _ rfl
      have c5 : wr.cell? ⟨b, o + k * 8 + 5, none⟩ = some (.int .i64 x.cburst) := by rw [Ext.cell hx hb]; exact hcell 5 _ rfl
      have c6 : wr.cell? ⟨b, o + k * 8 + 6, none⟩ = some (.int .i64 x.prio) := by rw [Ext.cell hx hb]; exact hcell 6 _ rfl
      have c7 : wr.cell? ⟨b, o + k * 8 + 7, none⟩ = some (.int .i64 x.limit) := by rw [Ext.cell hx hb]; exact hcell 7 _ rfl
      clear hcell hst
      cases he : (x.id == id)
      · have HE := Lib.hid he
        go_wp2
        go_roundw
        case rel => exact ⟨k + 1, by omega, by go_num, by have := hq.out; rw [HST.out, HE.out] at this; exact this, hx.alloc _⟩
        case measure => simp [intOf]; omega
      · have HE := Lib.hid he
        go_wp2
        go_ret
        exact ⟨by have := hq.out; rw [HST.out, HE.out] at this; rw [this]; rfl, hx.alloc _⟩
    · obtain rfl : k = cs.length := by omega
      go_wp2
      go_ret
      exact ⟨by have := hq.out; rw [Nat.sub_self] at this; rw [this]; rfl, hx⟩

theorem indexOf1_any (x : Cls) (id : Int) (b : Nat) (w : World) (h : w.cell? ⟨b, 0, none⟩ = some (.int .i64 id)) (hb : b < w.heap.size) :
    Calls Tryd.prog 56 #[clsV x, .pointer (some ⟨b, 0, none⟩)] w fun e w' => e = .returned (.bool (x.id == id)) ∧ Ext w w' := by
  have hne : b ≠ w.heap.size := by omega
  go_enter Tryd.func56, Tryd.ntmps56
  go_wp2
  go_ret
  exact ⟨rfl, (Ext.refl _).alloc _⟩
/-- The first class with a property, the property given by a function value that captures some. -/
theorem impl_indexOf_1_index (p : Cls → Bool) (q0 : Value) (v : Value) (cs : List Cls) (w : World) (hc : RdC w v cs) (hcl : cs.length ≤ 1048576)
    (hp : ∀ (x : Cls) (w' : World), Ext w w' → Calls Tryd.prog 56 #[clsV x, q0] w' fun e w'' => e = .returned (.bool (p x)) ∧ Ext w' w'') :
    Calls Tryd.prog 55 #[v, .func (.func 56) #[] #[q0]] w fun e w' => e = .returned (.int .i64 (idxC cs p)) ∧ Ext w w' := by
  obtain ⟨CA, cc, rfl, hcc, hrc⟩ := hc
  have HR := Lib.hid hrc
  have HP := Lib.hid hp
  clear hrc hp
  go_enter Tryd.func55, Tryd.ntmps55
  go_wp2
  go_loopw [8] (fun t wr => ∃ k : Nat, k ≤ cs.length ∧ t = .int .i64 (k : Int) ∧ Hid (idxC cs p = fndN (fun k => clsAt cs k p) k (cs.length - k)) ∧ Ext w wr) (fun t _ => cs.length - (intOf t).toNat)
  case atStart => exact ⟨0, Nat.zero_le _, rfl, rfl, Ext.refl _⟩
  case round =>
    obtain ⟨k, hk, rfl, hq, hx⟩ := hrel
    by_cases hlt : k < cs.length
    · obtain ⟨b, o, rfl, hb, hcell⟩ := HR.out k cs[k] (List.getElem?_eq_getElem hlt)
      have hst := fndN_step (fun k => clsAt cs k p) k cs.length hlt
      simp only [clsAt_is cs k _ hlt] at hst
      generalize cs[k] = x at hcell hst
      have HST := Lib.hid hst
      have c0 : wr.cell? ⟨b, o + k * 8, none⟩ = some (.int .i64 x.id) := by rw [Ext.cell hx hb]; exact hcell 0 _ rfl
      have c1 : wr.cell? ⟨b, o + k * 8 + 1, none⟩ = some (.int .i64 x.parent) := by rw [Ext.cell hx hb]; exact hcell 1 _ rfl
      have c2 : wr.cell? ⟨b, o + k * 8 + 2, none⟩ = some (.int .i64 x.rate) := by rw [Ext.cell hx hb]; exact hcell 2 _ rfl
      have c3 : wr.cell? ⟨b, o + k * 8 + 3, none⟩ = some (.int .i64 x.ceil) := by rw [Ext.cell hx hb]; exact hcell 3 _ rfl
      have c4 : wr.cell? ⟨b, o + k * 8 + 4, none⟩ = some (.int .i64 x.burst) := by rw [Ext.cell hx hb]; exact hcell 4 _ rfl
      have c5 : wr.cell? ⟨b, o + k * 8 + 5, none⟩ = some (.int .i64 x.cburst) := by rw [Ext.cell hx hb]; exact hcell 5 _ rfl
      have c6 : wr.cell? ⟨b, o + k * 8 + 6, none⟩ = some (.int .i64 x.prio) := by rw [Ext.cell hx hb]; exact hcell 6 _ rfl
      have c7 : wr.cell? ⟨b, o + k * 8 + 7, none⟩ = some (.int .i64 x.limit) := by rw [Ext.cell hx hb]; exact hcell 7 _ rfl
      clear hcell hst
      go_wp2_with fail
      refine (HP.out x _ hx).mono ?_
      rintro e w1 ⟨rfl, F1⟩
      cases he : p x
      · have HE := Lib.hid he
        go_wp2
        go_roundw
        case rel => exact ⟨k + 1, by omega, by go_num, by have := hq.out; rw [HST.out, HE.out] at this; exact this, hx.trans F1⟩
        case measure => simp [intOf]; omega
      · have HE := Lib.hid he
        go_wp2
        go_ret
        exact ⟨by have := hq.out; rw [HST.out, HE.out] at this; rw [this]; rfl, hx.trans F1⟩
    · obtain rfl : k = cs.length := by omega
      go_wp2
      go_ret
      exact ⟨by have := hq.out; rw [Nat.sub_self] at this; rw [this]; rfl, hx⟩
/-- The first class with a property, the property given by a function value that captures some. -/
theorem impl_isLeaf_1_index (p : Cls → Bool) (q0 q1 : Value) (v : Value) (cs : List Cls) (w : World) (hc : RdC w v cs) (hcl : cs.length ≤ 1048576)
    (hp : ∀ (x : Cls) (w' : World), Ext w w' → Calls Tryd.prog 58 #[clsV x, q0, q1] w' fun e w'' => e = .returned (.bool (p x)) ∧ Ext w' w'') :
    Calls Tryd.prog 55 #[v, .func (.func 58) #[] #[q0, q1]] w fun e w' => e = .returned (.int .i64 (idxC cs p)) ∧ Ext w w' := by
  obtain ⟨CA, cc, rfl, hcc, hrc⟩ := hc
  have HR := Lib.hid hrc
  have HP := Lib.hid hp
  clear hrc hp
  go_enter Tryd.func55, Tryd.ntmps55
  go_wp2
  go_loopw [8] (fun t wr => ∃ k : Nat, k ≤ cs.length ∧ t = .int .i64 (k : Int) ∧ Hid (idxC cs p = fndN (fun k => clsAt cs k p) k (cs.length - k)) ∧ Ext w wr) (fun t _ => cs.length - (intOf t).toNat)
  case atStart => exact ⟨0, Nat.zero_le _, rfl, rfl, Ext.refl _⟩
  case round =>
    obtain ⟨k, hk, rfl, hq, hx⟩ := hrel
    by_cases hlt : k < cs.length
    · obtain ⟨b, o, rfl, hb, hcell⟩ := HR.out k cs[k] (List.getElem?_eq_getElem hlt)
      have hst := fndN_step (fun k => clsAt cs k p) k cs.length hlt
      simp only [clsAt_is cs k _ hlt] at hst
      generalize cs[k] = x at hcell hst
      have HST := Lib.hid hst
      have c0 : wr.cell? ⟨b, o + k * 8, none⟩ = some (.int .i64 x.id) := by rw [Ext.cell hx hb]; exact hcell 0 _ rfl
      have c1 : wr.cell? ⟨b, o + k * 8 + 1, none⟩ = some (.int .i64 x.parent) := by rw [Ext.cell hx hb]; exact hcell 1 _ rfl
      have c2 : wr.cell? ⟨b, o + k * 8 + 2, none⟩ = some (.int .i64 x.rate) := by rw [Ext.cell hx hb]; exact hcell 2 _ rfl
      have c3 : wr.cell? ⟨b, o + k * 8 + 3, none⟩ = some (.int .i64 x.ceil) := by rw [Ext.cell hx hb]; exact hcell 3 _ rfl
      have c4 : wr.cell? ⟨b, o + k * 8 + 4, none⟩ = some (.int .i64 x.burst) := by rw [Ext.cell hx hb]; exact hcell 4 _ rfl
      have c5 : wr.cell? ⟨b, o + k * 8 + 5, none⟩ = some (.int .i64 x.cburst) := by rw [Ext.cell hx hb]; exact hcell 5 _ rfl
      have c6 : wr.cell? ⟨b, o + k * 8 + 6, none⟩ = some (.int .i64 x.prio) := by rw [Ext.cell hx hb]; exact hcell 6 _ rfl
      have c7 : wr.cell? ⟨b, o + k * 8 + 7, none⟩ = some (.int .i64 x.limit) := by rw [Ext.cell hx hb]; exact hcell 7 _ rfl
      clear hcell hst
      go_wp2_with fail
      refine (HP.out x _ hx).mono ?_
      rintro e w1 ⟨rfl, F1⟩
      cases he : p x
      · have HE := Lib.hid he
        go_wp2
        go_roundw
        case rel => exact ⟨k + 1, by omega, by go_num, by have := hq.out; rw [HST.out, HE.out] at this; exact this, hx.trans F1⟩
        case measure => simp [intOf]; omega
      · have HE := Lib.hid he
        go_wp2
        go_ret
        exact ⟨by have := hq.out; rw [HST.out, HE.out] at this; rw [this]; rfl, hx.trans F1⟩
    · obtain rfl : k = cs.length := by omega
      go_wp2
      go_ret
      exact ⟨by have := hq.out; rw [Nat.sub_self] at this; rw [this]; rfl, hx⟩
/-- The first class with a property, the property given by a function value that captures some. -/
theorem impl_ratesCountable_1_index (p : Cls → Bool) (v : Value) (cs : List Cls) (w : World) (hc : RdC w v cs) (hcl : cs.length ≤ 1048576)
    (hp : ∀ (x : Cls) (w' : World), Ext w w' → Calls Tryd.prog 76 #[clsV x] w' fun e w'' => e = .returned (.bool (p x)) ∧ Ext w' w'') :
    Calls Tryd.prog 55 #[v, .func (.func 76) #[] #[]] w fun e w' => e = .returned (.int .i64 (idxC cs p)) ∧ Ext w w' := by
  obtain ⟨CA, cc, rfl, hcc, hrc⟩ := hc
  have HR := Lib.hid hrc
  have HP := Lib.hid hp
  clear hrc hp
  go_enter Tryd.func55, Tryd.ntmps55
  go_wp2
  go_loopw [8] (fun t wr => ∃ k : Nat, k ≤ cs.length ∧ t = .int .i64 (k : Int) ∧ Hid (idxC cs p = fndN (fun k => clsAt cs k p) k (cs.length - k)) ∧ Ext w wr) (fun t _ => cs.length - (intOf t).toNat)
  case atStart => exact ⟨0, Nat.zero_le _, rfl, rfl, Ext.refl _⟩
  case round =>
    obtain ⟨k, hk, rfl, hq, hx⟩ := hrel
    by_cases hlt : k < cs.length
    · obtain ⟨b, o, rfl, hb, hcell⟩ := HR.out k cs[k] (List.getElem?_eq_getElem hlt)
      have hst := fndN_step (fun k => clsAt cs k p) k cs.length hlt
      simp only [clsAt_is cs k _ hlt] at hst
      generalize cs[k] = x at hcell hst
      have HST := Lib.hid hst
      have c0 : wr.cell? ⟨b, o + k * 8, none⟩ = some (.int .i64 x.id) := by rw [Ext.cell hx hb]; exact hcell 0 _ rfl
      have c1 : wr.cell? ⟨b, o + k * 8 + 1, none⟩ = some (.int .i64 x.parent) := by rw [Ext.cell hx hb]; exact hcell 1 _ rfl
      have c2 : wr.cell? ⟨b, o + k * 8 + 2, none⟩ = some (.int .i64 x.rate) := by rw [Ext.cell hx hb]; exact hcell 2 _ rfl
      have c3 : wr.cell? ⟨b, o + k * 8 + 3, none⟩ = some (.int .i64 x.ceil) := by rw [Ext.cell hx hb]; exact hcell 3 _ rfl
      have c4 : wr.cell? ⟨b, o + k * 8 + 4, none⟩ = some (.int .i64 x.burst) := by rw [Ext.cell hx hb]; exact hcell 4 _ rfl
      have c5 : wr.cell? ⟨b, o + k * 8 + 5, none⟩ = some (.int .i64 x.cburst) := by rw [Ext.cell hx hb]; exact hcell 5 _ rfl
      have c6 : wr.cell? ⟨b, o + k * 8 + 6, none⟩ = some (.int .i64 x.prio) := by rw [Ext.cell hx hb]; exact hcell 6 _ rfl
      have c7 : wr.cell? ⟨b, o + k * 8 + 7, none⟩ = some (.int .i64 x.limit) := by rw [Ext.cell hx hb]; exact hcell 7 _ rfl
      clear hcell hst
      go_wp2_with fail
      refine (HP.out x _ hx).mono ?_
      rintro e w1 ⟨rfl, F1⟩
      cases he : p x
      · have HE := Lib.hid he
        go_wp2
        go_roundw
        case rel => exact ⟨k + 1, by omega, by go_num, by have := hq.out; rw [HST.out, HE.out] at this; exact this, hx.trans F1⟩
        case measure => simp [intOf]; omega
      · have HE := Lib.hid he
        go_wp2
        go_ret
        exact ⟨by have := hq.out; rw [HST.out, HE.out] at this; rw [this]; rfl, hx.trans F1⟩
    · obtain rfl : k = cs.length := by omega
      go_wp2
      go_ret
      exact ⟨by have := hq.out; rw [Nat.sub_self] at this; rw [this]; rfl, hx⟩
/-- The first class with a property, the property given by a function value that captures some. -/
theorem impl_holds_1_index (p : Cls → Bool) (v : Value) (cs : List Cls) (w : World) (hc : RdC w v cs) (hcl : cs.length ≤ 1048576)
    (hp : ∀ (x : Cls) (w' : World), Ext w w' → Calls Tryd.prog 68 #[clsV x] w' fun e w'' => e = .returned (.bool (p x)) ∧ Ext w' w'') :
    Calls Tryd.prog 55 #[v, .func (.func 68) #[] #[]] w fun e w' => e = .returned (.int .i64 (idxC cs p)) ∧ Ext w w' := by
  obtain ⟨CA, cc, rfl, hcc, hrc⟩ := hc
  have HR := Lib.hid hrc
  have HP := Lib.hid hp
  clear hrc hp
  go_enter Tryd.func55, Tryd.ntmps55
  go_wp2
  go_loopw [8] (fun t wr => ∃ k : Nat, k ≤ cs.length ∧ t = .int .i64 (k : Int) ∧ Hid (idxC cs p = fndN (fun k => clsAt cs k p) k (cs.length - k)) ∧ Ext w wr) (fun t _ => cs.length - (intOf t).toNat)
  case atStart => exact ⟨0, Nat.zero_le _, rfl, rfl, Ext.refl _⟩
  case round =>
    obtain ⟨k, hk, rfl, hq, hx⟩ := hrel
    by_cases hlt : k < cs.length
    · obtain ⟨b, o, rfl, hb, hcell⟩ := HR.out k cs[k] (List.getElem?_eq_getElem hlt)
      have hst := fndN_step (fun k => clsAt cs k p) k cs.length hlt
      simp only [clsAt_is cs k _ hlt] at hst
      generalize cs[k] = x at hcell hst
      have HST := Lib.hid hst
      have c0 : wr.cell? ⟨b, o + k * 8, none⟩ = some (.int .i64 x.id) := by rw [Ext.cell hx hb]; exact hcell 0 _ rfl
      have c1 : wr.cell? ⟨b, o + k * 8 + 1, none⟩ = some (.int .i64 x.parent) := by rw [Ext.cell hx hb]; exact hcell 1 _ rfl
      have c2 : wr.cell? ⟨b, o + k * 8 + 2, none⟩ = some (.int .i64 x.rate) := by rw [Ext.cell hx hb]; exact hcell 2 _ rfl
      have c3 : wr.cell? ⟨b, o + k * 8 + 3, none⟩ = some (.int .i64 x.ceil) := by rw [Ext.cell hx hb]; exact hcell 3 _ rfl
      have c4 : wr.cell? ⟨b, o + k * 8 + 4, none⟩ = some (.int .i64 x.burst) := by rw [Ext.cell hx hb]; exact hcell 4 _ rfl
      have c5 : wr.cell? ⟨b, o + k * 8 + 5, none⟩ = some (.int .i64 x.cburst) := by rw [Ext.cell hx hb]; exact hcell 5 _ rfl
      have c6 : wr.cell? ⟨b, o + k * 8 + 6, none⟩ = some (.int .i64 x.prio) := by rw [Ext.cell hx hb]; exact hcell 6 _ rfl
      have c7 : wr.cell? ⟨b, o + k * 8 + 7, none⟩ = some (.int .i64 x.limit) := by rw [Ext.cell hx hb]; exact hcell 7 _ rfl
      clear hcell hst
      go_wp2_with fail
      refine (HP.out x _ hx).mono ?_
      rintro e w1 ⟨rfl, F1⟩
      cases he : p x
      · have HE := Lib.hid he
        go_wp2
        go_roundw
        case rel => exact ⟨k + 1, by omega, by go_num, by have := hq.out; rw [HST.out, HE.out] at this; exact this, hx.trans F1⟩
        case measure => simp [intOf]; omega
      · have HE := Lib.hid he
        go_wp2
        go_ret
        exact ⟨by have := hq.out; rw [HST.out, HE.out] at this; rw [this]; rfl, hx.trans F1⟩
    · obtain rfl : k = cs.length := by omega
      go_wp2
      go_ret
      exact ⟨by have := hq.out; rw [Nat.sub_self] at this; rw [this]; rfl, hx⟩
/-- The first class with a property, the property given by a function value that captures some. -/
theorem impl_holds_2_index (p : Cls → Bool) (v : Value) (cs : List Cls) (w : World) (hc : RdC w v cs) (hcl : cs.length ≤ 1048576)
    (hp : ∀ (x : Cls) (w' : World), Ext w w' → Calls Tryd.prog 71 #[clsV x] w' fun e w'' => e = .returned (.bool (p x)) ∧ Ext w' w'') :
    Calls Tryd.prog 55 #[v, .func (.func 71) #[] #[]] w fun e w' => e = .returned (.int .i64 (idxC cs p)) ∧ Ext w w' := by
  obtain ⟨CA, cc, rfl, hcc, hrc⟩ := hc
  have HR := Lib.hid hrc
  have HP := Lib.hid hp
  clear hrc hp
  go_enter Tryd.func55, Tryd.ntmps55
  go_wp2
  go_loopw [8] (fun t wr => ∃ k : Nat, k ≤ cs.length ∧ t = .int .i64 (k : Int) ∧ Hid (idxC cs p = fndN (fun k => clsAt cs k p) k (cs.length - k)) ∧ Ext w wr) (fun t _ => cs.length - (intOf t).toNat)
  case atStart => exact ⟨0, Nat.zero_le _, rfl, rfl, Ext.refl _⟩
  case round =>
    obtain ⟨k, hk, rfl, hq, hx⟩ := hrel
    by_cases hlt : k < cs.length
    · obtain ⟨b, o, rfl, hb, hcell⟩ := HR.out k cs[k] (List.getElem?_eq_getElem hlt)
      have hst := fndN_step (fun k => clsAt cs k p) k cs.length hlt
      simp only [clsAt_is cs k _ hlt] at hst
      generalize cs[k] = x at hcell hst
      have HST := Lib.hid hst
      have c0 : wr.cell? ⟨b, o + k * 8, none⟩ = some (.int .i64 x.id) := by rw [Ext.cell hx hb]; exact hcell 0 _ rfl
      have c1 : wr.cell? ⟨b, o + k * 8 + 1, none⟩ = some (.int .i64 x.parent) := by rw [Ext.cell hx hb]; exact hcell 1 _ rfl
      have c2 : wr.cell? ⟨b, o + k * 8 + 2, none⟩ = some (.int .i64 x.rate) := by rw [Ext.cell hx hb]; exact hcell 2 _ rfl
      have c3 : wr.cell? ⟨b, o + k * 8 + 3, none⟩ = some (.int .i64 x.ceil) := by rw [Ext.cell hx hb]; exact hcell 3 _ rfl
      have c4 : wr.cell? ⟨b, o + k * 8 + 4, none⟩ = some (.int .i64 x.burst) := by rw [Ext.cell hx hb]; exact hcell 4 _ rfl
      have c5 : wr.cell? ⟨b, o + k * 8 + 5, none⟩ = some (.int .i64 x.cburst) := by rw [Ext.cell hx hb]; exact hcell 5 _ rfl
      have c6 : wr.cell? ⟨b, o + k * 8 + 6, none⟩ = some (.int .i64 x.prio) := by rw [Ext.cell hx hb]; exact hcell 6 _ rfl
      have c7 : wr.cell? ⟨b, o + k * 8 + 7, none⟩ = some (.int .i64 x.limit) := by rw [Ext.cell hx hb]; exact hcell 7 _ rfl
      clear hcell hst
      go_wp2_with fail
      refine (HP.out x _ hx).mono ?_
      rintro e w1 ⟨rfl, F1⟩
      cases he : p x
      · have HE := Lib.hid he
        go_wp2
        go_roundw
        case rel => exact ⟨k + 1, by omega, by go_num, by have := hq.out; rw [HST.out, HE.out] at this; exact this, hx.trans F1⟩
        case measure => simp [intOf]; omega
      · have HE := Lib.hid he
        go_wp2
        go_ret
        exact ⟨by have := hq.out; rw [HST.out, HE.out] at this; rw [this]; rfl, hx.trans F1⟩
    · obtain rfl : k = cs.length := by omega
      go_wp2
      go_ret
      exact ⟨by have := hq.out; rw [Nat.sub_self] at this; rw [this]; rfl, hx⟩
theorem impl_indexOf_any (n : ByteArray) (cv fv : Value) (d id : Int) (cs : List Cls) (w : World) (hc : RdC w cv cs) (hcl : cs.length ≤ 1048576) :
    Calls Tryd.prog 27 #[cfgV n cv fv d, .int .i64 id] w fun e w' => e = .returned (.int .i64 (findI cs id)) ∧ Ext w w' := by
  have HC := Lib.hid hc
  clear hc
  go_enter Tryd.func27, Tryd.ntmps27
  go_wp2_with fail
  refine (impl_indexOf_1_index (fun x => x.id == id) _ _ cs _ (HC.out.ext (((Ext.refl w).alloc _).alloc _)) hcl (fun x w' hx => indexOf1_any x id (w.heap.size + 1) w' ((Ext.cell hx (by simp)).trans (by simp)) (Ext.lts hx _ (by simp)))).mono ?_
  rintro e w1 ⟨rfl, F1⟩
  go_wp2
  go_ret
  exact ⟨rfl, Ext.trans (((Ext.refl w).alloc _).alloc _) F1⟩
end Go.Proofs.YtidahgoihgodnaaDoor
