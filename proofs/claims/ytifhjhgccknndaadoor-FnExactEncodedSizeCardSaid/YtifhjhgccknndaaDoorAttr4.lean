/- Contracts: parents of attributes. -/
import Derived.Test.YtifhjhgccknndaaDoorAttr3
namespace Go.Proofs.YtifhjhgccknndaaDoor
open Go.RowKit
set_option maxHeartbeats 1000000
set_option linter.unusedSimpArgs false
set_option linter.unusedVariables false

/-- The last attribute before index i with a property, or -1. -/
def prevP (p : Att → Bool) (l : List Att) : Nat → Int
  | 0 => -1
  | k + 1 => match l[k]? with
    | some x => if p x then k else prevP p l k
    | none => prevP p l k
theorem prevP_step (p : Att → Bool) (l : List Att) (k : Nat) (h : k < l.length) : prevP p l (k + 1) = if p l[k] then (k : Int) else prevP p l k := by
  simp [prevP, h]
theorem prevP_bd (p : Att → Bool) (l : List Att) : ∀ i : Nat, -1 ≤ prevP p l i ∧ prevP p l i < i
  | 0 => by simp [prevP]
  | k + 1 => by
    have := prevP_bd p l k
    unfold prevP
    split
    · split <;> omega
    · omega
/-- Less deep than d. -/
def lessD (d : Int) (y : Att) : Bool := decide (y.depth < d)
def justD (d : Int) (y : Att) : Bool := y.depth == d - 1
/-- The parent of an attribute, or -1. -/
def parI (l : List Att) (i : Nat) : Int := match l[i]? with
  | some x => prevP (lessD x.depth) l i
  | none => -1
/-- Depths grow by at most one. -/
def slow (l : List Att) : Prop := ∀ k x y, l[k]? = some x → l[k + 1]? = some y → y.depth ≤ x.depth + 1
theorem goodFrom_get : ∀ (l : List Att) (most : Int), goodFrom most l = true → (∀ x, l[0]? = some x → x.depth ≤ most) ∧ slow l ∧ ∀ x ∈ l, 1 ≤ x.depth ∧ x.depth ≤ 8 ∧ 0 ≤ x.type ∧ x.type ≤ 32767 ∧ x.data.size ≤ 1000 ∧ (x.nested = true → x.data.toList.isEmpty = true)
  | [], _, _ => ⟨by simp, fun k x y h => by simp at h, by simp⟩
  | x :: r, most, h => by
    simp only [goodFrom, Bool.and_eq_true] at h
    have h1 := h.1
    obtain ⟨h2, h3⟩ := goodFrom_get r (mostAft x) h.2
    obtain ⟨hd, ht, hs, hn, hm⟩ := attOk_parts h1
    refine ⟨fun y hy => by simp at hy; subst hy; exact hm, fun k a b ha hb => ?_, fun y hy => ?_⟩
    · match k, ha, hb with
      | 0, ha, hb =>
        simp at ha hb
        subst ha
        have := h2 b (by simpa using hb)
        unfold mostAft at this
        split at this <;> omega
      | k + 1, ha, hb => exact h3.1 k a b (by simpa using ha) (by simpa using hb)
    · rcases List.mem_cons.1 hy with rfl | hy
      · exact ⟨hd.1, hd.2, ht.1, ht.2, hs, hn⟩
      · exact h3.2 y hy
theorem good_get {l : List Att} (h : goodB l = true) : l.length ≤ 400 ∧ (∀ x, l[0]? = some x → x.depth ≤ 1) ∧ slow l ∧ ∀ x ∈ l, 1 ≤ x.depth ∧ x.depth ≤ 8 ∧ 0 ≤ x.type ∧ x.type ≤ 32767 ∧ x.data.size ≤ 1000 ∧ (x.nested = true → x.data.toList.isEmpty = true) := by
  simp only [goodB, Bool.and_eq_true, decide_eq_true_eq] at h
  have := goodFrom_get l 1 h.2
  exact ⟨h.1, this⟩
/-- If the attribute at k is at least d deep, all before it are searched alike. -/
theorem prev_same (l : List Att) (hs : slow l) (d : Int) : ∀ k : Nat, k ≤ l.length → (∀ x, l[k]? = some x → d ≤ x.depth) → prevP (justD d) l k = prevP (lessD d) l k ∨ False ∨ k = l.length := by
  intro k
  induction k with
  | zero => intro _ _; exact .inl rfl
  | succ k ih =>
    intro hk hd
    by_cases hkl : k + 1 = l.length
    · exact .inr (.inr hkl)
    left
    have h0 : k < l.length := by omega
    rw [prevP_step _ l k h0, prevP_step _ l k h0]
    have hx : l[k]? = some l[k] := List.getElem?_eq_getElem h0
    have hy : l[k + 1]? = some l[k + 1] := List.getElem?_eq_getElem (by omega)
    have h1 := hs k _ _ hx hy
    have h2 := hd _ hy
    by_cases hj : l[k].depth < d
    · have e : l[k].depth = d - 1 := by omega
      simp [justD, lessD, e]
      omega
    · have e1 : justD d l[k] = false := by simp [justD]; omega
      have e2 : lessD d l[k] = false := by simp [lessD]; omega
      rw [e1, e2]
      simp only [Bool.false_eq_true, if_false]
      rcases ih (by omega) (fun x hx' => by rw [hx] at hx'; cases hx'; omega) with h | h | h
      · exact h
      · exact h.elim
      · omega
theorem parI_just {l : List Att} (hg : goodB l = true) (i : Nat) (hi : i < l.length) : prevP (justD l[i].depth) l i = parI l i := by
  obtain ⟨_, _, hs, _⟩ := good_get hg
  have e : parI l i = prevP (lessD l[i].depth) l i := by simp [parI, hi]
  rw [e]
  rcases prev_same l hs l[i].depth i (by omega) (fun x hx => by rw [List.getElem?_eq_getElem hi] at hx; cases hx; omega) with h | h | h
  · exact h
  · exact h.elim
  · omega

def dep (l : List Att) (i : Int) : Int := match l[i.toNat]? with
  | some x => x.depth
  | none => 0
def parB (l : List Att) (i : Int) : Bool := hasB l i && (dep l i != 1)
def parV (l : List Att) (i : Int) : Int := if parB l i then parI l i.toNat else 0
end Go.Proofs.YtifhjhgccknndaaDoor
