/- Contracts: SizeOf, OffsetOf. -/
import Derived.Test.YtifhjhgccknndaaDoorAttR
namespace Go.Proofs.YtifhjhgccknndaaDoor
open Go.RowKit
set_option maxHeartbeats 1000000
set_option linter.unusedSimpArgs false
set_option linter.unusedVariables false

theorem prevP_spec (p : Att → Bool) (l : List Att) : ∀ i : Nat, i ≤ l.length → (prevP p l i = -1 → ∀ k (h : k < l.length), k < i → p l[k] = false) ∧ (∀ u : Nat, prevP p l i = u → u < i ∧ (∀ h : u < l.length, p l[u] = true) ∧ ∀ k (h : k < l.length), u < k → k < i → p l[k] = false)
  | 0, _ => ⟨fun _ k h hk => absurd hk (by omega), fun u hu => by have h0 : prevP p l 0 = -1 := rfl; omega⟩
  | i + 1, hi => by
    have ih := prevP_spec p l i (by omega)
    rw [prevP_step p l i (by omega)]
    by_cases hp : p l[i] = true
    · rw [if_pos hp]
      refine ⟨fun h => by omega, fun u hu => ?_⟩
      obtain rfl : i = u := by omega
      exact ⟨by omega, fun _ => hp, fun k h h1 h2 => by omega⟩
    · rw [if_neg hp]
      have hpf : p l[i] = false := by simpa using hp
      refine ⟨fun h k hk1 hk2 => ?_, fun u hu => ?_⟩
      · by_cases e : k = i
        · subst e; exact hpf
        · exact ih.1 h k hk1 (by omega)
      · obtain ⟨h1, h2, h3⟩ := ih.2 u hu
        refine ⟨by omega, h2, fun k hk1 hk2 hk3 => ?_⟩
        by_cases e : k = i
        · subst e; exact hpf
        · exact h3 k hk1 hk2 (by omega)
theorem closed_before (l : List Att) (a i : Nat) (hi : i < l.length) (h : ∀ k (hk : k < l.length), a ≤ k → k < i → l[i].depth ≤ l[k].depth) : closed l a i := by
  intro k h1 h2
  have hkl : k < l.length := by omega
  rcases Nat.lt_or_ge i (endN l k) with hlt | hge
  · exfalso
    have := end_in l k i hkl hi h2 hlt
    have := h k hkl h1 h2
    omega
  · exact hge
theorem parI_is (l : List Att) (i : Nat) (hi : i < l.length) : parI l i = prevP (lessD l[i].depth) l i := by simp [parI, hi]
theorem par_none (l : List Att) (i : Nat) (hi : i < l.length) (h : parI l i = -1) : closed l 0 i := by
  rw [parI_is l i hi] at h
  refine closed_before l 0 i hi fun k hk _ hki => ?_
  have := (prevP_spec _ l i (by omega)).1 h k hk hki
  simp [lessD] at this
  omega
theorem par_some {l : List Att} (hg : goodB l = true) (i u : Nat) (hi : i < l.length) (h : parI l i = u) : u < i ∧ closed l (u + 1) i ∧ preSz l (u + 1) = preSz l u + 4 := by
  rw [parI_is l i hi] at h
  obtain ⟨h1, h2, h3⟩ := (prevP_spec _ l i (by omega)).2 u h
  have hu : u < l.length := by omega
  have hd : l[u].depth < l[i].depth := by simpa [lessD] using h2 hu
  have hge : ∀ k (hk : k < l.length), u < k → k < i → l[i].depth ≤ l[k].depth := fun k hk a b => by
    have := h3 k hk a b
    simp [lessD] at this
    omega
  refine ⟨h1, closed_before l (u + 1) i hi fun k hk a b => hge k hk (by omega) b, ?_⟩
  have hn : l[u].nested = true := by
    have h4 := good_nest hg u (by omega)
    have h5 : l[u].depth < l[u + 1].depth := by
      by_cases e : u + 1 = i
      · subst e; exact hd
      · have := hge (u + 1) (by omega) (by omega) (by omega)
        omega
    cases hn : l[u].nested
    · rw [show mostAft l[u] = l[u].depth by simp [mostAft, hn]] at h4
      omega
    · rfl
  rw [preSz_succ l u hu, sz_nested hg u hu hn]

def szB (l : List Att) (i : Int) : Bool := hasB l i && decide (preSz l l.length ≤ 6000)
def szV (l : List Att) (i : Int) : Int := if szB l i then preSz l (endN l i.toNat) - preSz l i.toNat else 0
def offV (l : List Att) (i : Int) : Int := if szB l i then preSz l i.toNat else 0

end Go.Proofs.YtifhjhgccknndaaDoor
