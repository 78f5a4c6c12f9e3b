/- Contracts of the law's own functions on Filter and slices of them: copied, equal, marked, held. -/
import Derived.Test.YtifhjhgccknndaaProg
import Derived.Test.YtifhjhgccknndaaMem
namespace Go.Proofs.Ytifhjhgccknndaa
open Go.RowKit
set_option maxHeartbeats 1000000
set_option linter.unusedSimpArgs false
set_option linter.unusedVariables false

theorem info_Filter : (Try.prog.info? 33).map (fun i => (i.zero, i.size, i.bytes)) = some (some (.agg #[.int .i64 0, .int .i64 0, .int .i64 0, .int .i64 0, .int .i64 0]), 5, 40) := by kernel_rfl

theorem laws_toFilter_any (x : Flt) (w : World) :
    Calls Try.prog 21 #[fltW x] w fun e w' => e = .returned (fltW x) ∧ Ext w w' := by
  go_enter Try.func21, Try.ntmps21
  go_wp2
  refine bodyPost_ret (v := fltW x) (by simp [results, Try.results21, go_sem]) rfl ⟨rfl, ?_⟩
  (repeat (first | (with_reducible exact Ext.refl _) | (with_reducible assumption) | (with_reducible apply Ext.alloc) | (with_reducible apply Ext.drew) | (with_reducible apply Ext.drewN) | ((with_reducible refine Ext.setCell ?_ ?_ _); rotate_left; (focus (first | (simp; done) | (simp; omega) | omega))) | (with_reducible refine Ext.trans ?_ (by assumption))))

end Go.Proofs.Ytifhjhgccknndaa
