/- IsStorable on both sides, in one form. -/
import Derived.Test.YtifhjhgccknndaaDoorStor
namespace Go.Proofs.YtifhjhgccknndaaDoor.U
open Go.RowKit
theorem impl_IsStorable_any (n : ByteArray) (cv fv : Value) (d : Int) (cs : List Cls) (fs : List Flt) (w : World) (hk : Keys w) (hc : RdC w cv cs) (hf : RdF w fv fs) (hz : n.size + cs.length + fs.length ≤ 1048576) :
    Calls Tryd.prog 10 #[cfgV n cv fv d] w fun e w' => e = .returned (.bool (rawB n cs fs d)) ∧ Ext w w' :=
  Go.Proofs.YtifhjhgccknndaaDoor.impl_IsStorable_any n cv fv d cs fs w hk hc hf (by omega) (by omega)
theorem spec_IsStorable_any (n : ByteArray) (cv fv : Value) (d : Int) (cs : List Cls) (fs : List Flt) (w : World) (hk : Keys w) (hc : RdC w cv cs) (hf : RdF w fv fs) (hz : n.size + cs.length + fs.length ≤ 1048576) :
    Calls Tryd.prog 8 #[cfgV n cv fv d] w fun e w' => e = .returned (.bool (rawB n cs fs d)) ∧ Ext w w' :=
  Go.Proofs.YtifhjhgccknndaaDoor.spec_IsStorable_any n cv fv d cs fs w hc hf (by omega) (by omega) (by omega)
end Go.Proofs.YtifhjhgccknndaaDoor.U
