/- SetLimit: contracts of both sides. Printed by wip/tools/gen_setl.py. -/
import Derived.Test.YtbbenppmfmphfaaDoorCfgM
namespace Go.Proofs.YtbbenppmfmphfaaDoor
open Go.RowKit
set_option maxRecDepth 20000
set_option maxHeartbeats 4000000
set_option linter.unusedSimpArgs false
set_option linter.unusedVariables false

def setLim (cs : List Cls) (i : Nat) (v : Int) : List Cls := match cs[i]? with
  | some x => cs.set i { x with limit := v }
  | none => cs
theorem setLim_len (cs : List Cls) (i : Nat) (v : Int) : (setLim cs i v).length = cs.length := by
  unfold setLim
  split <;> simp
theorem setLim_at (cs : List Cls) (i : Nat) (v : Int) (h : i < cs.length) : setLim cs i v = cs.set i { cs[i] with limit := v } := by
  unfold setLim
  rw [List.getElem?_eq_getElem h]
def slR (n : ByteArray) (cs : List Cls) (fs : List Flt) (d id lim : Int) : CfgR := if goodB n cs fs d && leafIdB cs id then ifR n (setLim cs (findI cs id).toNat lim) fs d else noCfg
theorem ifR_len (n : ByteArray) (cs : List Cls) (fs : List Flt) (d : Int) (k : Nat) (hz : cs.length ≤ k ∧ fs.length ≤ k) : (ifR n cs fs d).cls.length ≤ k ∧ (ifR n cs fs d).flt.length ≤ k := by
  unfold ifR
  split
  · exact hz
  · simp [noCfg]
theorem slR_len (n : ByteArray) (cs : List Cls) (fs : List Flt) (d id lim : Int) (hz : n.size + cs.length + fs.length ≤ 1048576) : (slR n cs fs d id lim).cls.length ≤ 2000000 ∧ (slR n cs fs d id lim).flt.length ≤ 2000000 := by
  unfold slR
  split
  · exact ifR_len _ _ _ _ _ ⟨by rw [setLim_len]; omega, by omega⟩
  · simp [noCfg]
end Go.Proofs.YtbbenppmfmphfaaDoor
