/- How many attributes a configuration has. -/
import Derived.Test.YtifhjhgccknndaaDoorCAttr
namespace Go.Proofs.YtifhjhgccknndaaDoor
theorem catV_len (n : ByteArray) (cs : List Cls) (fs : List Flt) (d : Int) : (catV n cs fs d).length ≤ 2000000 := by
  unfold catV
  cases hr : rawB n cs fs d
  · simp
  · obtain ⟨_, hc, hf, _, _, _⟩ := rawB_parts hr
    have : (cat n cs fs d).length ≤ 2000000 := by
      unfold cat
      rw [List.length_append, List.length_append, flat_cls_len, flat_flt_len, show (catHd n d).length = 3 from rfl]
      omega
    simpa using this
end Go.Proofs.YtifhjhgccknndaaDoor
