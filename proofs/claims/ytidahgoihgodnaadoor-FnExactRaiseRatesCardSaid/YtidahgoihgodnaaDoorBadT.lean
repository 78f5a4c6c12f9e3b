/- Contracts: leaves by Id, filters with bad targets. Printed by wip/tools/gen_way.py. -/
import Derived.Test.YtidahgoihgodnaaDoorLeaf2
namespace Go.Proofs.YtidahgoihgodnaaDoor
open Go.RowKit
set_option maxRecDepth 20000
set_option maxHeartbeats 1000000
set_option linter.unusedSimpArgs false
set_option linter.unusedVariables false

theorem findI_bd (cs : List Cls) (id : Int) : findI cs id = -1 ∨ ∃ u : Nat, findI cs id = u ∧ u < cs.length := by
  rcases fndN_bd (fun k => clsAt cs k fun x => x.id == id) cs.length 0 with h | ⟨h1, h2⟩
  · exact .inl h
  · have h3 : findI cs id = fndN (fun k => clsAt cs k fun x => x.id == id) 0 cs.length := rfl
    obtain ⟨u, hu⟩ := Int.eq_ofNat_of_zero_le (show 0 ≤ findI cs id by omega)
    exact .inr ⟨u, hu, by omega⟩
def leafIdB (cs : List Cls) (id : Int) : Bool := decide (0 ≤ findI cs id) && leafB cs (findI cs id).toNat
def fltAt (fs : List Flt) (k : Nat) (p : Flt → Bool) : Bool := match fs[k]? with
  | some x => p x
  | none => false
theorem fltAt_is (fs : List Flt) (k : Nat) (p : Flt → Bool) (h : k < fs.length) : fltAt fs k p = p fs[k] := by simp [fltAt, h]
def btP (cs : List Cls) (fs : List Flt) (k : Nat) : Bool := fltAt fs k (fun x => !leafIdB cs x.target)
def badTV (n : ByteArray) (cs : List Cls) (fs : List Flt) (d : Int) : List Int := if smallCf cs fs then pick (btP cs fs) fs.length else []
theorem badTV_len (n : ByteArray) (cs : List Cls) (fs : List Flt) (d : Int) : (badTV n cs fs d).length ≤ 2000000 := by
  unfold badTV
  split
  · rename_i h
    simp only [smallCf, Bool.and_eq_true, decide_eq_true_eq] at h
    have := pick_len (btP cs fs) fs.length
    omega
  · simp
theorem impl_isLeafId_any (n : ByteArray) (cv fv : Value) (d id : Int) (cs : List Cls) (w : World) (hc : RdC w cv cs) (hcl : cs.length ≤ 1048576) :
    Calls Tryd.prog 75 #[cfgV n cv fv d, .int .i64 id] w fun e w' => e = .returned (.bool (leafIdB cs id)) ∧ Ext w w' := by
  have HC := Lib.hid hc
  clear hc
  have E0 := (Ext.refl w).alloc (.cells #[.string n, cv, fv, .int .i64 d] 30)
  go_enter Tryd.func75, Tryd.ntmps75
  go_wp2_with fail
  refine (impl_indexOf_any n _ fv d id cs _ (HC.out.ext E0) hcl).mono ?_
  rintro e w1 ⟨rfl, F1⟩
  have E1 := E0.trans F1
  rcases findI_bd cs id with h | ⟨u, hu, hul⟩
  · have HV := Lib.hid (show leafIdB cs id = false by simp [leafIdB, h])
    rw [h]
    go_wp2
    go_ret
    exact ⟨by rw [HV.out]; rfl, E1⟩
  · have HV := Lib.hid (show leafIdB cs id = leafB cs u by simp [leafIdB, hu])
    rw [hu]
    obtain ⟨q0, q1, q2, q3, _⟩ := (Box.new w n cv fv d 30).ext F1
    go_wp2_with fail
    clear q0 q1 q2 q3
    refine (impl_isLeaf_any n _ fv d u cs _ (HC.out.ext E1) hul hcl).mono ?_
    rintro e w2 ⟨rfl, F2⟩
    go_wp2
    go_ret
    exact ⟨by rw [HV.out]; rfl, E1.trans F2⟩
theorem spec_cfTarget_any (n : ByteArray) (cv fv : Value) (d id : Int) (cs : List Cls) (w : World) (hc : RdC w cv cs) (hcl : cs.length ≤ 1048576) :
    Calls Tryd.prog 20 #[cfgV n cv fv d, .int .i64 id] w fun e w' => e = .returned (.bool (leafIdB cs id)) ∧ Ext w w' := by
  have HC := Lib.hid hc
  clear hc
  have E0 := (Ext.refl w).alloc (.cells #[.string n, cv, fv, .int .i64 d] 30)
  go_enter Tryd.func20, Tryd.ntmps20
  go_wp2_with fail
  refine (spec_cfFind_any n _ fv d id cs _ (HC.out.ext E0) hcl).mono ?_
  rintro e w1 ⟨rfl, F1⟩
  have E1 := E0.trans F1
  rcases findI_bd cs id with h | ⟨u, hu, hul⟩
  · have HV := Lib.hid (show leafIdB cs id = false by simp [leafIdB, h])
    rw [h]
    go_wp2
    go_ret
    exact ⟨by rw [HV.out]; rfl, E1⟩
  · have HV := Lib.hid (show leafIdB cs id = leafB cs u by simp [leafIdB, hu])
    rw [hu]
    obtain ⟨q0, q1, q2, q3, _⟩ := (Box.new w n cv fv d 30).ext F1
    go_wp2_with fail
    clear q0 q1 q2 q3
    refine (spec_cfLeaf_any n _ fv d u cs _ (HC.out.ext E1) hul hcl).mono ?_
    rintro e w2 ⟨rfl, F2⟩
    go_wp2
    go_ret
    exact ⟨by rw [HV.out]; rfl, E1.trans F2⟩
end Go.Proofs.YtidahgoihgodnaaDoor
