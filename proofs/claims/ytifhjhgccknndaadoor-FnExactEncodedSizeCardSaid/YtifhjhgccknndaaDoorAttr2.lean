/- The reference's test of attributes. -/
import Derived.Test.YtifhjhgccknndaaDoorAttr
namespace Go.Proofs.YtifhjhgccknndaaDoor
open Go.RowKit
set_option maxHeartbeats 2000000
set_option linter.unusedSimpArgs false
set_option linter.unusedVariables false

theorem attOk_five (mo : Int) (x : Att) : 
    (attOk mo x = false ∧ inR x.depth 1 (min mo 8) = false) ∨
    (attOk mo x = false ∧ inR x.depth 1 (min mo 8) = true ∧ inR x.type 0 32767 = false) ∨
    (attOk mo x = false ∧ inR x.depth 1 (min mo 8) = true ∧ inR x.type 0 32767 = true ∧ decide ((1000 : Int) < (x.data.size : Int)) = true) ∨
    (attOk mo x = false ∧ inR x.depth 1 (min mo 8) = true ∧ inR x.type 0 32767 = true ∧ decide ((1000 : Int) < (x.data.size : Int)) = false ∧ x.nested = true ∧ x.data.toList.isEmpty = false) ∨
    (attOk mo x = true ∧ inR x.depth 1 (min mo 8) = true ∧ inR x.type 0 32767 = true ∧ decide ((1000 : Int) < (x.data.size : Int)) = false ∧ x.nested = true ∧ x.data.toList.isEmpty = true) ∨
    (attOk mo x = true ∧ inR x.depth 1 (min mo 8) = true ∧ inR x.type 0 32767 = true ∧ decide ((1000 : Int) < (x.data.size : Int)) = false ∧ x.nested = false) := by
  by_cases h1 : inR x.depth 1 (min mo 8) = true
  · have h1' := inR_iff.1 h1
    by_cases h2 : inR x.type 0 32767 = true
    · have h2' := inR_iff.1 h2
      by_cases h3 : x.data.size ≤ 1000
      · have h3' : decide ((1000 : Int) < (x.data.size : Int)) = false := by simp; omega
        cases hn : x.nested
        · exact .inr (.inr (.inr (.inr (.inr ⟨attOk_mk (by omega) h2' h3 (.inl hn) (by omega), h1, h2, h3', rfl⟩))))
        · cases he : x.data.toList.isEmpty
          · refine .inr (.inr (.inr (.inl ⟨?_, h1, h2, h3', rfl, rfl⟩)))
            simp [attOk, hn, he]
          · exact .inr (.inr (.inr (.inr (.inl ⟨attOk_mk (by omega) h2' h3 (.inr he) (by omega), h1, h2, h3', rfl, rfl⟩))))
      · refine .inr (.inr (.inl ⟨?_, h1, h2, by simp; omega⟩))
        simp [attOk, h3]
    · have h2 : inR x.type 0 32767 = false := by simpa using h2
      exact .inr (.inl ⟨by simp [attOk, h2], h1, h2⟩)
  · have h1 : inR x.depth 1 (min mo 8) = false := by simpa using h1
    refine .inl ⟨?_, h1⟩
    rw [inR_not] at h1
    by_cases h : attOk mo x = true
    · obtain ⟨h2, _, _, _, h3⟩ := attOk_parts h
      omega
    · simpa using h

end Go.Proofs.YtifhjhgccknndaaDoor
