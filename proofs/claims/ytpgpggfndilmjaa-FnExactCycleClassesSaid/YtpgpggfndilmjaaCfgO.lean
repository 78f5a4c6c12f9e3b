/- A law's argument that is a configuration: what it reads as. -/
import Derived.Test.YtpgpggfndilmjaaCfgS
import Derived.Test.YtpgpggfndilmjaaOpen
namespace Go.Proofs.Ytpgpggfndilmjaa
open Go.RowKit Go.WideShapes Go.ChangeShapes Go.ChangeAt Go.Joins Go.Deep
set_option linter.unusedVariables false

theorem slice_form {H : Type} {enc : TypeId × Value → H} {P : Program} {W : World} {v : Value} {x : DataW H × List MemPlace} {fuel : Nat} {t e : TypeId} (ht : P.underlying t = some (.slice e))
    (hf : DataW.trod enc P W 0 (fun _ => true) true fuel t [v] = some x) : ∃ a len cap, v = .slice a len cap := by
  rcases open_slice ht hf with ⟨hcs, _⟩ | ⟨a, len, cap, _, _, _, _, hcs, _⟩
  · exact ⟨_, _, _, by simpa using hcs⟩
  · exact ⟨_, _, _, by simpa using hcs⟩
theorem open_Config {H : Type} {enc : TypeId × Value → H} {W : World} {base : Nat} {v : Value} {d : DataW H} {p : List MemPlace} (hval : Value.okWide Try.prog W .any base 25 v) (h : DataW.Trod enc Try.prog W 0 (fun _ => true) true 25 v d p) :
    ∃ (n : ByteArray) (cv fv : Value) (dd : Int) (cs : List Cls) (fs : List Flt), v = cfgV n cv fv dd ∧ RdC W cv cs ∧ RdF W fv fs ∧ n.size ≤ maxLen ∧ cs.length ≤ maxLen ∧ fs.length ≤ maxLen ∧ (∀ x ∈ cs, okClass x) ∧ (∀ x ∈ fs, okFilter x) ∧ I64 dd := by
  obtain ⟨v0, v1, v2, v3, y0, y1, y2, y3, m, rfl, _, _, g0, g1, g2, g3⟩ := open_agg4 Try.underlying25 (by kernel_rfl) (by kernel_rfl) hval h
  obtain ⟨n, e0, _, hn⟩ := DataW.trod_string Try.underlying9 g0
  obtain rfl : v0 = .string n := by simpa using e0
  obtain ⟨z3, e3, _, w3⟩ := DataW.trod_int Try.underlying3 g3
  obtain rfl : v3 = .int .i64 z3 := by simpa using e3
  obtain ⟨cs, hc1, hc2, hc3⟩ := open_ClassS (r := .any) (base := 0) (slice_form Try.underlying22 g1) (show _ = some (y1.1, y1.2) from g1)
  obtain ⟨fs, hf1, hf2, hf3⟩ := open_FilterS (r := .any) (base := 0) (slice_form Try.underlying23 g2) (show _ = some (y2.1, y2.2) from g2)
  exact ⟨n, v1, v2, z3, cs, fs, rfl, hc1, hf1, hn, hc2, hf2, hc3, hf3, i64_of_wf w3⟩
end Go.Proofs.Ytpgpggfndilmjaa
