/- Attributes: the plain side, no program in sight. -/
import Derived.Test.YtifhjhgccknndaaDoorMem
import Derived.Test.YtifhjhgccknndaaDoorBits
namespace Go.Proofs.YtifhjhgccknndaaDoor
def attOk (most : Int) (x : Att) : Bool := inR x.depth 1 8 && inR x.type 0 32767 && decide (x.data.size ≤ 1000) && !(x.nested && !x.data.toList.isEmpty) && decide (x.depth ≤ most)
def mostAft (x : Att) : Int := if x.nested then x.depth + 1 else x.depth
def goodFrom : Int → List Att → Bool
  | _, [] => true
  | most, x :: r => attOk most x && goodFrom (mostAft x) r
/-- The attributes are valid. -/
def goodB (l : List Att) : Bool := decide (l.length ≤ 400) && goodFrom 1 l
def mostAt (l : List Att) (k : Nat) : Int := if k = 0 then 1 else match l[k - 1]? with
  | some x => mostAft x
  | none => 1
theorem goodFrom_step (l : List Att) (k : Nat) (h : k < l.length) (most : Int) : goodFrom most (l.drop k) = (attOk most l[k] && goodFrom (mostAft l[k]) (l.drop (k + 1))) := by
  rw [List.drop_eq_getElem_cons h]
  rfl
theorem mostAt_succ (l : List Att) (k : Nat) (h : k < l.length) : mostAt l (k + 1) = mostAft l[k] := by
  simp [mostAt, h]
theorem mostAt_prev (l : List Att) (k : Nat) (h : k < l.length) (h0 : 0 < k) : mostAt l k = mostAft (l[k - 1]'(by omega)) := by
  have : l[k - 1]? = some (l[k - 1]'(by omega)) := List.getElem?_eq_getElem _
  simp [mostAt, this, Nat.pos_iff_ne_zero.1 h0]
theorem attOk_parts {most : Int} {x : Att} (h : attOk most x = true) : (1 ≤ x.depth ∧ x.depth ≤ 8) ∧ (0 ≤ x.type ∧ x.type ≤ 32767) ∧ x.data.size ≤ 1000 ∧ (x.nested = true → x.data.toList.isEmpty = true) ∧ x.depth ≤ most := by
  simp only [attOk, Bool.and_eq_true, decide_eq_true_eq, inR_iff, Bool.not_eq_true', Bool.and_eq_false_iff] at h
  obtain ⟨⟨⟨⟨h1, h2⟩, h3⟩, h4⟩, h5⟩ := h
  refine ⟨h1, h2, h3, fun hn => ?_, h5⟩
  rcases h4 with h | h
  · rw [h] at hn; cases hn
  · simpa using h
theorem attOk_mk {most : Int} {x : Att} (h1 : 1 ≤ x.depth ∧ x.depth ≤ 8) (h2 : 0 ≤ x.type ∧ x.type ≤ 32767) (h3 : x.data.size ≤ 1000) (h4 : x.nested = false ∨ x.data.toList.isEmpty = true) (h5 : x.depth ≤ most) : attOk most x = true := by
  simp only [attOk, Bool.and_eq_true, decide_eq_true_eq, inR_iff, Bool.not_eq_true', Bool.and_eq_false_iff]
  refine ⟨⟨⟨⟨h1, h2⟩, h3⟩, ?_⟩, h5⟩
  rcases h4 with h | h
  · exact .inl h
  · exact .inr (by simpa using h)
end Go.Proofs.YtifhjhgccknndaaDoor
