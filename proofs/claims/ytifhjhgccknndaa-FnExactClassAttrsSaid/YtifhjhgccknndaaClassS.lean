/- Contracts of the law's own functions on Class and slices of them: copied, equal, marked, held. -/
import Derived.Test.YtifhjhgccknndaaProg
import Derived.Test.YtifhjhgccknndaaMem
namespace Go.Proofs.Ytifhjhgccknndaa
open Go.RowKit
set_option maxHeartbeats 1000000
set_option linter.unusedSimpArgs false
set_option linter.unusedVariables false

theorem info_Class : (Try.prog.info? 43).map (fun i => (i.zero, i.size, i.bytes)) = some (some (.agg #[.int .i64 0, .int .i64 0, .int .i64 0, .int .i64 0, .int .i64 0, .int .i64 0, .int .i64 0, .int .i64 0]), 8, 64) := by kernel_rfl

theorem laws_toClass_any (x : Cls) (w : World) :
    Calls Try.prog 30 #[clsV x] w fun e w' => e = .returned (clsV x) ∧ Ext w w' := by
  go_enter Try.func30, Try.ntmps30
  go_wp2
  refine bodyPost_ret (v := clsV x) (by simp [results, Try.results30, go_sem]) rfl ⟨rfl, ?_⟩
  (repeat (first | (with_reducible exact Ext.refl _) | (with_reducible assumption) | (with_reducible apply Ext.alloc) | (with_reducible apply Ext.drew) | (with_reducible apply Ext.drewN) | ((with_reducible refine Ext.setCell ?_ ?_ _); rotate_left; (focus (first | (simp; done) | (simp; omega) | omega))) | (with_reducible refine Ext.trans ?_ (by assumption))))

end Go.Proofs.Ytifhjhgccknndaa
