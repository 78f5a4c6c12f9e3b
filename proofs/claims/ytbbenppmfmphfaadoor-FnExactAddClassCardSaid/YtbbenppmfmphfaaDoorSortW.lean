/- Sorting in place: comparisons, exchanges, insertion. Printed by wip/tools/gen_sort.py. -/
import Derived.Test.YtbbenppmfmphfaaDoorCfgM
import Derived.Test.YtbbenppmfmphfaaDoorSortP
import Derived.BigRegion
namespace Go.Proofs.YtbbenppmfmphfaaDoor
open Go.RowKit
set_option maxRecDepth 20000
set_option maxHeartbeats 1000000
set_option linter.unusedSimpArgs false
set_option linter.unusedVariables false

def cmpI (a b : Int) : Int := if a < b then -1 else if b < a then 1 else 0
theorem cmpI_neg {a b : Int} : cmpI a b < 0 ↔ a < b := by
  unfold cmpI
  split
  · simp; assumption
  · split <;> simp <;> omega
/-- What sorting leaves of a row. -/
def SrtAns {α : Type} (O : World → List α → Prop) (key : α → Int) (l : List α) (g a b : Nat) (w : World) (e : Ending) (w' : World) : Prop :=
  e = .returned (.tuple #[]) ∧ ∃ l', O w' l' ∧ Mrg key l l' a b ∧ KB (fun k => k = g) w w'
/-- Mrg but for the order. -/
def PreM {α : Type} (l l' : List α) (a b : Nat) : Prop := l'.Perm l ∧ (∀ t, (t < a ∨ b ≤ t) → l'[t]? = l[t]?) ∧ ∀ t, a ≤ t → t < b → ∃ s, a ≤ s ∧ s < b ∧ l'[t]? = l[s]?
theorem PreM.mrg {α : Type} {key : α → Int} {l l' : List α} {a b : Nat} (h : PreM l l' a b) (hs : SrtOn (kF key l') a b) : Mrg key l l' a b := ⟨h.1, hs, h.2.1, h.2.2⟩
theorem Mrg.wide {α : Type} {key : α → Int} {l l' : List α} {a b : Nat} (h : Mrg key l l' a b) : PreM l l' a (b + 1) :=
  ⟨h.1, fun t ht => h.2.2.1 t (by omega), fun t h1 h2 => by
    rcases Nat.lt_or_ge t b with h3 | h3
    · obtain ⟨s, p, q, r⟩ := h.2.2.2 t h1 h3
      exact ⟨s, p, by omega, r⟩
    · exact ⟨t, h1, h2, h.2.2.1 t (.inr h3)⟩⟩
theorem PreM.swap {α : Type} {l l' : List α} {a b i j : Nat} (h : PreM l l' a b) (hi : a ≤ i) (hib : i < b) (hj : a ≤ j) (hjb : j < b) (hb : b ≤ l.length) : PreM l (swp l' i j) a b := by
  obtain ⟨p, o, n⟩ := h
  have hl := p.length_eq
  refine ⟨(swp_perm l' i j (by omega) (by omega)).trans p, fun t ht => ?_, fun t h1 h2 => ?_⟩
  · rw [swp_get l' i j (by omega) (by omega), if_neg (by omega), if_neg (by omega)]
    exact o t ht
  · rw [swp_get l' i j (by omega) (by omega)]
    split
    · exact n i hi hib
    · split
      · exact n j hj hjb
      · exact n t h1 h2
theorem Mrg.cut {α : Type} {key : α → Int} {l l' : List α} {a b i : Nat} (h : Mrg key l l' a i) (hb : b ≤ i) (hi : i ≤ b ∨ i = a + 1) (hab : a ≤ b) : Mrg key l l' a b := by
  rcases hi with hi | hi
  · obtain rfl : i = b := by omega
    exact h
  · obtain ⟨p, s, o, n⟩ := h
    have same : ∀ t, l'[t]? = l[t]? := fun t => by
      by_cases e : t = a
      · subst e
        obtain ⟨s', h1, h2, h3⟩ := n t (Nat.le_refl _) (by omega)
        obtain rfl : s' = t := by omega
        exact h3
      · exact o t (by omega)
    exact ⟨p, s.mono (Nat.le_refl _) hb, fun t _ => same t, fun t h1 h2 => ⟨t, h1, h2, same t⟩⟩
theorem KB.same {a b c : World} {g : Nat} (h : KB (fun k => k = g) a b) (k : KB (fun k => k = g) b c) : KB (fun k => k = g) a c := KB.mono (h.trans k) (fun i hi => hi.elim id id)
theorem KB.ext {a b c : World} {g : Nat} (h : KB (fun k => k = g) a b) (k : Ext b c) : KB (fun k => k = g) a c := KB.mono (h.trans (KB.of_ext k)) (fun i hi => hi.elim id (fun e => e.elim))
theorem KB.set {a b : World} {g : Nat} (h : KB (fun k => k = g) a b) (i : Nat) (u : Value) : KB (fun k => k = g) a (b.setCell ⟨g, i, none⟩ u) :=
  h.same (KB.mono (KB.of_grown (grown_setCell (World.grownBy.refl b (some g)) i u)) (fun k hk => by cases hk; rfl))
theorem KB.refl (w : World) (S : Nat → Prop) : KB S w w := KB.mono (KB.of_ext (Ext.refl w)) (fun _ h => h.elim)
theorem compareInts_any (a b : Int) (w : World) :
    Calls Tryd.prog 52 #[.int .i64 a, .int .i64 b] w fun e w' => e = .returned (.int .i64 (cmpI a b)) ∧ w = w' := by
  by_cases h1 : a < b
  · have HV := Lib.hid (show cmpI a b = -1 by simp [cmpI, h1])
    go_enter Tryd.func52, Tryd.ntmps52
    go_wp2
    go_ret
    exact ⟨by rw [HV.out]; rfl, rfl⟩
  · by_cases h2 : b < a
    · have HV := Lib.hid (show cmpI a b = 1 by simp [cmpI, h1, h2])
      go_enter Tryd.func52, Tryd.ntmps52
      go_wp2
      go_ret
      exact ⟨by rw [HV.out]; rfl, rfl⟩
    · have HV := Lib.hid (show cmpI a b = 0 by simp [cmpI, h1, h2])
      go_enter Tryd.func52, Tryd.ntmps52
      go_wp2
      go_ret
      exact ⟨by rw [HV.out]; rfl, rfl⟩
theorem cmpC_any (x y : Cls) (w : World) :
    Calls Tryd.prog 51 #[clsV x, clsV y] w fun e w' => e = .returned (.int .i64 (cmpI x.id y.id)) ∧ Ext w w' := by
  go_enter Tryd.func51, Tryd.ntmps51
  go_wp2_with (go_at_call 52; refine (compareInts_any _ _ _).mono ?_; rintro e w' ⟨rfl, rfl⟩)
  go_ret
  exact ⟨rfl, ((Ext.refl _).alloc _).alloc _⟩
/-- The cells of one element of a row of the call's own. -/
theorem rowC {w : World} {bs g cap N : Nat} {l : List Cls} (h : OwnC w bs (.slice (some ⟨g, 0, none⟩) N cap) l) (i : Nat) (x : Cls) (hx : l[i]? = some x) :
    (w.cell? ⟨g, i * 8, none⟩ = some (.int .i64 x.id) ∧ w.cell? ⟨g, i * 8 + 1, none⟩ = some (.int .i64 x.parent) ∧ w.cell? ⟨g, i * 8 + 2, none⟩ = some (.int .i64 x.rate) ∧ w.cell? ⟨g, i * 8 + 3, none⟩ = some (.int .i64 x.ceil) ∧ w.cell? ⟨g, i * 8 + 4, none⟩ = some (.int .i64 x.burst) ∧ w.cell? ⟨g, i * 8 + 5, none⟩ = some (.int .i64 x.cburst) ∧ w.cell? ⟨g, i * 8 + 6, none⟩ = some (.int .i64 x.prio) ∧ w.cell? ⟨g, i * 8 + 7, none⟩ = some (.int .i64 x.limit)) ∧ (w.frozen? ⟨g, i * 8, none⟩ = false ∧ w.frozen? ⟨g, i * 8 + 1, none⟩ = false ∧ w.frozen? ⟨g, i * 8 + 2, none⟩ = false ∧ w.frozen? ⟨g, i * 8 + 3, none⟩ = false ∧ w.frozen? ⟨g, i * 8 + 4, none⟩ = false ∧ w.frozen? ⟨g, i * 8 + 5, none⟩ = false ∧ w.frozen? ⟨g, i * 8 + 6, none⟩ = false ∧ w.frozen? ⟨g, i * 8 + 7, none⟩ = false) ∧ g < w.heap.size := by
  obtain ⟨A, c, hv, _⟩ := Own.rd h Cls.len
  injection hv with h1 h2 h3
  subst h2 h3
  exact ⟨⟨by have := (Own.cell_at h i 0 x (.int .i64 x.id) hx Cls.len rfl).1; simpa using this, by have := (Own.cell_at h i 1 x (.int .i64 x.parent) hx Cls.len rfl).1; simpa using this, by have := (Own.cell_at h i 2 x (.int .i64 x.rate) hx Cls.len rfl).1; simpa using this, by have := (Own.cell_at h i 3 x (.int .i64 x.ceil) hx Cls.len rfl).1; simpa using this, by have := (Own.cell_at h i 4 x (.int .i64 x.burst) hx Cls.len rfl).1; simpa using this, by have := (Own.cell_at h i 5 x (.int .i64 x.cburst) hx Cls.len rfl).1; simpa using this, by have := (Own.cell_at h i 6 x (.int .i64 x.prio) hx Cls.len rfl).1; simpa using this, by have := (Own.cell_at h i 7 x (.int .i64 x.limit) hx Cls.len rfl).1; simpa using this⟩, ⟨by have := (Own.cell_at h i 0 x (.int .i64 x.id) hx Cls.len rfl).2; simpa using this, by have := (Own.cell_at h i 1 x (.int .i64 x.parent) hx Cls.len rfl).2; simpa using this, by have := (Own.cell_at h i 2 x (.int .i64 x.rate) hx Cls.len rfl).2; simpa using this, by have := (Own.cell_at h i 3 x (.int .i64 x.ceil) hx Cls.len rfl).2; simpa using this, by have := (Own.cell_at h i 4 x (.int .i64 x.burst) hx Cls.len rfl).2; simpa using this, by have := (Own.cell_at h i 5 x (.int .i64 x.cburst) hx Cls.len rfl).2; simpa using this, by have := (Own.cell_at h i 6 x (.int .i64 x.prio) hx Cls.len rfl).2; simpa using this, by have := (Own.cell_at h i 7 x (.int .i64 x.limit) hx Cls.len rfl).2; simpa using this⟩, (Own.lt h g rfl).2⟩
theorem setRowC {w : World} {bs g cap N : Nat} {l : List Cls} (h : OwnC w bs (.slice (some ⟨g, 0, none⟩) N cap) l) (i : Nat) (x x' : Cls) (hx : l[i]? = some x) :
    OwnC ((((((((w.setCell ⟨g, i * 8, none⟩ (.int .i64 x'.id)).setCell ⟨g, i * 8 + 1, none⟩ (.int .i64 x'.parent)).setCell ⟨g, i * 8 + 2, none⟩ (.int .i64 x'.rate)).setCell ⟨g, i * 8 + 3, none⟩ (.int .i64 x'.ceil)).setCell ⟨g, i * 8 + 4, none⟩ (.int .i64 x'.burst)).setCell ⟨g, i * 8 + 5, none⟩ (.int .i64 x'.cburst)).setCell ⟨g, i * 8 + 6, none⟩ (.int .i64 x'.prio)).setCell ⟨g, i * 8 + 7, none⟩ (.int .i64 x'.limit)) bs (.slice (some ⟨g, 0, none⟩) N cap) (l.set i x') := by
  have hi : i < l.length := (List.getElem?_eq_some_iff.1 hx).1
  have h0 := Own.set_at' h i 0 x ({ x with id := x'.id }) (.int .i64 x'.id) hx (by omega) Cls.len rfl
  have h1 := Own.set_at' h0 i 1 ({ x with id := x'.id }) ({ ({ x with id := x'.id }) with parent := x'.parent }) (.int .i64 x'.parent) (by simp [hi]) (by omega) Cls.len rfl
  rw [List.set_set] at h1
  have h2 := Own.set_at' h1 i 2 ({ ({ x with id := x'.id }) with parent := x'.parent }) ({ ({ ({ x with id := x'.id }) with parent := x'.parent }) with rate := x'.rate }) (.int .i64 x'.rate) (by simp [hi]) (by omega) Cls.len rfl
  rw [List.set_set] at h2
  have h3 := Own.set_at' h2 i 3 ({ ({ ({ x with id := x'.id }) with parent := x'.parent }) with rate := x'.rate }) ({ ({ ({ ({ x with id := x'.id }) with parent := x'.parent }) with rate := x'.rate }) with ceil := x'.ceil }) (.int .i64 x'.ceil) (by simp [hi]) (by omega) Cls.len rfl
  rw [List.set_set] at h3
  have h4 := Own.set_at' h3 i 4 ({ ({ ({ ({ x with id := x'.id }) with parent := x'.parent }) with rate := x'.rate }) with ceil := x'.ceil }) ({ ({ ({ ({ ({ x with id := x'.id }) with parent := x'.parent }) with rate := x'.rate }) with ceil := x'.ceil }) with burst := x'.burst }) (.int .i64 x'.burst) (by simp [hi]) (by omega) Cls.len rfl
  rw [List.set_set] at h4
  have h5 := Own.set_at' h4 i 5 ({ ({ ({ ({ ({ x with id := x'.id }) with parent := x'.parent }) with rate := x'.rate }) with ceil := x'.ceil }) with burst := x'.burst }) ({ ({ ({ ({ ({ ({ x with id := x'.id }) with parent := x'.parent }) with rate := x'.rate }) with ceil := x'.ceil }) with burst := x'.burst }) with cburst := x'.cburst }) (.int .i64 x'.cburst) (by simp [hi]) (by omega) Cls.len rfl
  rw [List.set_set] at h5
  have h6 := Own.set_at' h5 i 6 ({ ({ ({ ({ ({ ({ x with id := x'.id }) with parent := x'.parent }) with rate := x'.rate }) with ceil := x'.ceil }) with burst := x'.burst }) with cburst := x'.cburst }) ({ ({ ({ ({ ({ ({ ({ x with id := x'.id }) with parent := x'.parent }) with rate := x'.rate }) with ceil := x'.ceil }) with burst := x'.burst }) with cburst := x'.cburst }) with prio := x'.prio }) (.int .i64 x'.prio) (by simp [hi]) (by omega) Cls.len rfl
  rw [List.set_set] at h6
  have h7 := Own.set_at' h6 i 7 ({ ({ ({ ({ ({ ({ ({ x with id := x'.id }) with parent := x'.parent }) with rate := x'.rate }) with ceil := x'.ceil }) with burst := x'.burst }) with cburst := x'.cburst }) with prio := x'.prio }) x' (.int .i64 x'.limit) (by simp [hi]) (by omega) Cls.len rfl
  rw [List.set_set] at h7
  exact h7
theorem swapRowC {w : World} {bs g cap N : Nat} {l : List Cls} (h : OwnC w bs (.slice (some ⟨g, 0, none⟩) N cap) l) (i j : Nat) (x y : Cls) (hx : l[i]? = some x) (hy : l[j]? = some y) :
    OwnC ((((((((((((((((w.setCell ⟨g, i * 8, none⟩ (.int .i64 y.id)).setCell ⟨g, i * 8 + 1, none⟩ (.int .i64 y.parent)).setCell ⟨g, i * 8 + 2, none⟩ (.int .i64 y.rate)).setCell ⟨g, i * 8 + 3, none⟩ (.int .i64 y.ceil)).setCell ⟨g, i * 8 + 4, none⟩ (.int .i64 y.burst)).setCell ⟨g, i * 8 + 5, none⟩ (.int .i64 y.cburst)).setCell ⟨g, i * 8 + 6, none⟩ (.int .i64 y.prio)).setCell ⟨g, i * 8 + 7, none⟩ (.int .i64 y.limit)).setCell ⟨g, j * 8, none⟩ (.int .i64 x.id)).setCell ⟨g, j * 8 + 1, none⟩ (.int .i64 x.parent)).setCell ⟨g, j * 8 + 2, none⟩ (.int .i64 x.rate)).setCell ⟨g, j * 8 + 3, none⟩ (.int .i64 x.ceil)).setCell ⟨g, j * 8 + 4, none⟩ (.int .i64 x.burst)).setCell ⟨g, j * 8 + 5, none⟩ (.int .i64 x.cburst)).setCell ⟨g, j * 8 + 6, none⟩ (.int .i64 x.prio)).setCell ⟨g, j * 8 + 7, none⟩ (.int .i64 x.limit)) bs (.slice (some ⟨g, 0, none⟩) N cap) (swp l i j) := by
  have hi : i < l.length := (List.getElem?_eq_some_iff.1 hx).1
  have hj : j < l.length := (List.getElem?_eq_some_iff.1 hy).1
  have e1 : l[i] = x := by rw [List.getElem?_eq_getElem hi] at hx; injection hx
  have e2 : l[j] = y := by rw [List.getElem?_eq_getElem hj] at hy; injection hy
  rw [swp_at l i j hi hj, e1, e2]
  exact setRowC (setRowC h i x y hx) j _ x (List.getElem?_eq_getElem (by simpa using hj))
theorem rowC_len {w : World} {bs g cap N : Nat} {l : List Cls} (h : OwnC w bs (.slice (some ⟨g, 0, none⟩) N cap) l) : l.length = N := by
  obtain ⟨A, c, hv, _⟩ := Own.rd h Cls.len
  injection hv with h1 h2 h3
  exact h2.symm
theorem cmpF_any (x y : Flt) (w : World) :
    Calls Tryd.prog 54 #[fltW x, fltW y] w fun e w' => e = .returned (.int .i64 (cmpI x.prio y.prio)) ∧ Ext w w' := by
  go_enter Tryd.func54, Tryd.ntmps54
  go_wp2_with (go_at_call 52; refine (compareInts_any _ _ _).mono ?_; rintro e w' ⟨rfl, rfl⟩)
  go_ret
  exact ⟨rfl, ((Ext.refl _).alloc _).alloc _⟩
/-- The cells of one element of a row of the call's own. -/
theorem rowF {w : World} {bs g cap N : Nat} {l : List Flt} (h : OwnF w bs (.slice (some ⟨g, 0, none⟩) N cap) l) (i : Nat) (x : Flt) (hx : l[i]? = some x) :
    (w.cell? ⟨g, i * 5, none⟩ = some (.int .i64 x.prio) ∧ w.cell? ⟨g, i * 5 + 1, none⟩ = some (.int .i64 x.field) ∧ w.cell? ⟨g, i * 5 + 2, none⟩ = some (.int .i64 x.mask) ∧ w.cell? ⟨g, i * 5 + 3, none⟩ = some (.int .i64 x.value) ∧ w.cell? ⟨g, i * 5 + 4, none⟩ = some (.int .i64 x.target)) ∧ (w.frozen? ⟨g, i * 5, none⟩ = false ∧ w.frozen? ⟨g, i * 5 + 1, none⟩ = false ∧ w.frozen? ⟨g, i * 5 + 2, none⟩ = false ∧ w.frozen? ⟨g, i * 5 + 3, none⟩ = false ∧ w.frozen? ⟨g, i * 5 + 4, none⟩ = false) ∧ g < w.heap.size := by
  obtain ⟨A, c, hv, _⟩ := Own.rd h Flt.len
  injection hv with h1 h2 h3
  subst h2 h3
  exact ⟨⟨by have := (Own.cell_at h i 0 x (.int .i64 x.prio) hx Flt.len rfl).1; simpa using this, by have := (Own.cell_at h i 1 x (.int .i64 x.field) hx Flt.len rfl).1; simpa using this, by have := (Own.cell_at h i 2 x (.int .i64 x.mask) hx Flt.len rfl).1; simpa using this, by have := (Own.cell_at h i 3 x (.int .i64 x.value) hx Flt.len rfl).1; simpa using this, by have := (Own.cell_at h i 4 x (.int .i64 x.target) hx Flt.len rfl).1; simpa using this⟩, ⟨by have := (Own.cell_at h i 0 x (.int .i64 x.prio) hx Flt.len rfl).2; simpa using this, by have := (Own.cell_at h i 1 x (.int .i64 x.field) hx Flt.len rfl).2; simpa using this, by have := (Own.cell_at h i 2 x (.int .i64 x.mask) hx Flt.len rfl).2; simpa using this, by have := (Own.cell_at h i 3 x (.int .i64 x.value) hx Flt.len rfl).2; simpa using this, by have := (Own.cell_at h i 4 x (.int .i64 x.target) hx Flt.len rfl).2; simpa using this⟩, (Own.lt h g rfl).2⟩
theorem setRowF {w : World} {bs g cap N : Nat} {l : List Flt} (h : OwnF w bs (.slice (some ⟨g, 0, none⟩) N cap) l) (i : Nat) (x x' : Flt) (hx : l[i]? = some x) :
    OwnF (((((w.setCell ⟨g, i * 5, none⟩ (.int .i64 x'.prio)).setCell ⟨g, i * 5 + 1, none⟩ (.int .i64 x'.field)).setCell ⟨g, i * 5 + 2, none⟩ (.int .i64 x'.mask)).setCell ⟨g, i * 5 + 3, none⟩ (.int .i64 x'.value)).setCell ⟨g, i * 5 + 4, none⟩ (.int .i64 x'.target)) bs (.slice (some ⟨g, 0, none⟩) N cap) (l.set i x') := by
  have hi : i < l.length := (List.getElem?_eq_some_iff.1 hx).1
  have h0 := Own.set_at' h i 0 x ({ x with prio := x'.prio }) (.int .i64 x'.prio) hx (by omega) Flt.len rfl
  have h1 := Own.set_at' h0 i 1 ({ x with prio := x'.prio }) ({ ({ x with prio := x'.prio }) with field := x'.field }) (.int .i64 x'.field) (by simp [hi]) (by omega) Flt.len rfl
  rw [List.set_set] at h1
  have h2 := Own.set_at' h1 i 2 ({ ({ x with prio := x'.prio }) with field := x'.field }) ({ ({ ({ x with prio := x'.prio }) with field := x'.field }) with mask := x'.mask }) (.int .i64 x'.mask) (by simp [hi]) (by omega) Flt.len rfl
  rw [List.set_set] at h2
  have h3 := Own.set_at' h2 i 3 ({ ({ ({ x with prio := x'.prio }) with field := x'.field }) with mask := x'.mask }) ({ ({ ({ ({ x with prio := x'.prio }) with field := x'.field }) with mask := x'.mask }) with value := x'.value }) (.int .i64 x'.value) (by simp [hi]) (by omega) Flt.len rfl
  rw [List.set_set] at h3
  have h4 := Own.set_at' h3 i 4 ({ ({ ({ ({ x with prio := x'.prio }) with field := x'.field }) with mask := x'.mask }) with value := x'.value }) x' (.int .i64 x'.target) (by simp [hi]) (by omega) Flt.len rfl
  rw [List.set_set] at h4
  exact h4
theorem swapRowF {w : World} {bs g cap N : Nat} {l : List Flt} (h : OwnF w bs (.slice (some ⟨g, 0, none⟩) N cap) l) (i j : Nat) (x y : Flt) (hx : l[i]? = some x) (hy : l[j]? = some y) :
    OwnF ((((((((((w.setCell ⟨g, i * 5, none⟩ (.int .i64 y.prio)).setCell ⟨g, i * 5 + 1, none⟩ (.int .i64 y.field)).setCell ⟨g, i * 5 + 2, none⟩ (.int .i64 y.mask)).setCell ⟨g, i * 5 + 3, none⟩ (.int .i64 y.value)).setCell ⟨g, i * 5 + 4, none⟩ (.int .i64 y.target)).setCell ⟨g, j * 5, none⟩ (.int .i64 x.prio)).setCell ⟨g, j * 5 + 1, none⟩ (.int .i64 x.field)).setCell ⟨g, j * 5 + 2, none⟩ (.int .i64 x.mask)).setCell ⟨g, j * 5 + 3, none⟩ (.int .i64 x.value)).setCell ⟨g, j * 5 + 4, none⟩ (.int .i64 x.target)) bs (.slice (some ⟨g, 0, none⟩) N cap) (swp l i j) := by
  have hi : i < l.length := (List.getElem?_eq_some_iff.1 hx).1
  have hj : j < l.length := (List.getElem?_eq_some_iff.1 hy).1
  have e1 : l[i] = x := by rw [List.getElem?_eq_getElem hi] at hx; injection hx
  have e2 : l[j] = y := by rw [List.getElem?_eq_getElem hj] at hy; injection hy
  rw [swp_at l i j hi hj, e1, e2]
  exact setRowF (setRowF h i x y hx) j _ x (List.getElem?_eq_getElem (by simpa using hj))
theorem rowF_len {w : World} {bs g cap N : Nat} {l : List Flt} (h : OwnF w bs (.slice (some ⟨g, 0, none⟩) N cap) l) : l.length = N := by
  obtain ⟨A, c, hv, _⟩ := Own.rd h Flt.len
  injection hv with h1 h2 h3
  exact h2.symm
theorem insC_any (l : List Cls) (g cap N bs a b : Nat) (w : World) (h : OwnC w bs (.slice (some ⟨g, 0, none⟩) N cap) l) (hab : a ≤ b) (hb : b ≤ N) (hN : N ≤ 1048576) :
    Calls Tryd.prog 90 #[(.slice (some ⟨g, 0, none⟩) N cap), .int .i64 (a : Int), .int .i64 (b : Int), .func (.func 51) #[] #[]] w (SrtAns (fun w' l' => OwnC w' bs (.slice (some ⟨g, 0, none⟩) N cap) l') (fun x : Cls => x.id) l g a b w) := by
  have hl0 := rowC_len h
  have HO := Lib.hid h
  have HL := Lib.hid hl0
  clear h hl0
  go_enter Tryd.func90, Tryd.ntmps90
  go_wp2
  go_loopw [8] (fun t wr => ∃ i : Nat, t = .int .i64 (i : Int) ∧ a < i ∧ (i ≤ b ∨ i = a + 1) ∧ ∃ l1, Hid (OwnC wr bs (.slice (some ⟨g, 0, none⟩) N cap) l1) ∧ Hid (Mrg (fun x : Cls => x.id) l l1 a i) ∧ Hid (KB (fun k => k = g) w wr)) (fun t _ => N + 2 - (intOf t).toNat)
  case atStart => exact ⟨a + 1, by go_num, by omega, .inr rfl, l, HO.out, Mrg.same (SrtOn.small _ (Nat.le_refl _)), KB.refl _ _⟩
  case round =>
    obtain ⟨i, rfl, hai, hib, l1, HO1, HM, HK⟩ := hrel
    obtain ⟨wo, rfl⟩ : ∃ x : World, x = wr := ⟨_, rfl⟩
    by_cases hlt : i < b
    · have hltz : (i : Int) < (b : Int) := by omega
      go_wp2
      go_loopw [9] (fun t wr2 => ∃ j : Nat, t = .int .i64 (j : Int) ∧ a ≤ j ∧ j ≤ i ∧ ∃ l2, Hid (OwnC wr2 bs (.slice (some ⟨g, 0, none⟩) N cap) l2) ∧ Hid (PreM l l2 a (i + 1)) ∧ Hid (Ins (kF (fun x : Cls => x.id) l2) a i j) ∧ Hid (KB (fun k => k = g) w wr2)) (fun t _ => (intOf t).toNat)
      case atStart => exact ⟨i, rfl, by omega, Nat.le_refl _, l1, HO1.out, HM.out.wide, Ins.start HM.out.2.1, HK.out⟩
      case round =>
        obtain ⟨j, rfl, haj, hji, l2, HO2, HP, HI, HK2⟩ := hrel
        obtain ⟨wr2, rfl⟩ : ∃ x : World, x = wr := ⟨_, rfl⟩
        have hl2 := Lib.hid (rowC_len HO2.out)
        by_cases hja : a < j
        · obtain ⟨jp, rfl⟩ : ∃ jp, j = jp + 1 := ⟨j - 1, by omega⟩
          have hjl : jp + 1 < l2.length := by rw [hl2.out]; omega
          obtain ⟨x, hx⟩ : ∃ x, l2[jp + 1]? = some x := ⟨_, List.getElem?_eq_getElem hjl⟩
          obtain ⟨y, hy⟩ : ∃ y, l2[jp]? = some y := ⟨_, List.getElem?_eq_getElem (by omega)⟩
          have hkx : kF (fun x : Cls => x.id) l2 (jp + 1) = x.id := by simp [kF, hx]
          have hky : kF (fun x : Cls => x.id) l2 jp = y.id := by simp [kF, hy]
          have HKX := Lib.hid hkx
          have HKY := Lib.hid hky
          clear hkx hky
          have hwp : IntKind.i64.wrap (jp : Int) = (jp : Int) := by rw [IntKind.wrap_i64]; omega
          have jz : (jp : Int) + 1 < (N : Int) := by omega
          have jz1 : (jp : Int) < (N : Int) := by omega
          have hjaz : (a : Int) < (jp : Int) + 1 := by omega
          have p0 : (0 : Int) ≤ (jp : Int) + 1 := by omega
          have e0 : ((jp : Int) + 1).toNat = jp + 1 := by omega
          obtain ⟨j1, hj1⟩ : ∃ j1, j1 = jp + 1 := ⟨_, rfl⟩
          rw [← hj1] at hx e0
          have J1 := Lib.hid hj1
          clear hj1
          have HX := Lib.hid hx
          have HY := Lib.hid hy
          obtain ⟨⟨xc0, xc1, xc2, xc3, xc4, xc5, xc6, xc7⟩, ⟨xf0, xf1, xf2, xf3, xf4, xf5, xf6, xf7⟩, xg⟩ := rowC HO2.out j1 x hx
          obtain ⟨⟨yc0, yc1, yc2, yc3, yc4, yc5, yc6, yc7⟩, ⟨yf0, yf1, yf2, yf3, yf4, yf5, yf6, yf7⟩, yg⟩ := rowC HO2.out jp y hy
          clear hx hy
          by_cases hk : x.id < y.id
          · have hc := cmpI_neg.2 hk
            (go_wp2_with fail; refine wp_region_ext (by kernel_rfl) (by kernel_rfl) ?_; (repeat (first | go_big_quiet_step ((first | (go_at_call 51; exact calls_later (cmpC_any x y _)))) | quiet_step ((first | (go_at_call 51; exact calls_later (cmpC_any x y _)))))); refine wpQuiet_nil ?_; intro wq hbq)
            clear xc0 xc1 xc2 xc3 xc4 xc5 xc6 xc7 xf0 xf1 xf2 xf3 xf4 xf5 xf6 xf7 xg
            clear yc0 yc1 yc2 yc3 yc4 yc5 yc6 yc7 yf0 yf1 yf2 yf3 yf4 yf5 yf6 yf7 yg
            obtain ⟨⟨xc0, xc1, xc2, xc3, xc4, xc5, xc6, xc7⟩, ⟨xf0, xf1, xf2, xf3, xf4, xf5, xf6, xf7⟩, xg⟩ := rowC (Own.ext HO2.out hbq) j1 x HX.out
            obtain ⟨⟨yc0, yc1, yc2, yc3, yc4, yc5, yc6, yc7⟩, ⟨yf0, yf1, yf2, yf3, yf4, yf5, yf6, yf7⟩, yg⟩ := rowC (Own.ext HO2.out hbq) jp y HY.out
            go_wp2_with fail
            go_big_region
            all_goals
              go_wp2_with fail
              go_roundw
              case rel =>
                refine ⟨jp, rfl, by omega, by omega, swp l2 j1 jp, Own.ext (swapRowC (Own.ext HO2.out hbq) j1 jp x y HX.out HY.out) (Ext.refl _).drew, ?_, ?_, ?_⟩
                · rw [J1.out]
                  exact HP.out.swap (by omega) (by omega) (by omega) (by omega) (by rw [HL.out]; omega)
                · rw [J1.out]
                  have := Ins.step HI.out hja hji (by rw [hl2.out]; omega) (by rw [Nat.add_sub_cancel, HKX.out, HKY.out]; exact hk)
                  rwa [Nat.add_sub_cancel] at this
                · refine KB.ext ?_ (Ext.refl _).drew
                  repeat (with_reducible refine KB.set ?_ _ _)
                  exact HK2.out.ext hbq
              case measure => (simp [intOf]; try omega)
          · have hc : ¬ cmpI x.id y.id < 0 := fun h => hk (cmpI_neg.1 h)
            (go_wp2_with fail; refine wp_region_ext (by kernel_rfl) (by kernel_rfl) ?_; (repeat (first | go_big_quiet_step ((first | (go_at_call 51; exact calls_later (cmpC_any x y _)))) | quiet_step ((first | (go_at_call 51; exact calls_later (cmpC_any x y _)))))); refine wpQuiet_nil ?_; intro wq hbq)
            clear xc0 xc1 xc2 xc3 xc4 xc5 xc6 xc7 xf0 xf1 xf2 xf3 xf4 xf5 xf6 xf7 xg
            clear yc0 yc1 yc2 yc3 yc4 yc5 yc6 yc7 yf0 yf1 yf2 yf3 yf4 yf5 yf6 yf7 yg
            go_wp2_with fail
            go_roundw
            case rel =>
              exact ⟨i + 1, by go_num, by omega, .inl (by omega), l2, Own.ext HO2.out hbq, HP.out.mrg (Ins.stop HI.out haj hji (.inr (by rw [Nat.add_sub_cancel, HKX.out, HKY.out]; omega))), HK2.out.ext hbq⟩
            case measure => (simp [intOf]; try omega)
        · obtain rfl : j = a := by omega
          (go_wp2_with fail; refine wp_region_ext (by kernel_rfl) (by kernel_rfl) ?_; (repeat (first | go_big_quiet_step (fail) | quiet_step (fail))); refine wpQuiet_nil ?_; intro wq hbq)
          go_wp2_with fail
          go_roundw
          case rel =>
            exact ⟨i + 1, by go_num, by omega, .inl (by omega), l2, Own.ext HO2.out hbq, HP.out.mrg (Ins.stop HI.out haj hji (.inl rfl)), HK2.out.ext hbq⟩
          case measure => (simp [intOf]; try omega)
    · have hge : ¬ (i : Int) < (b : Int) := by omega
      go_wp2_with fail
      go_end0
      exact ⟨rfl, l1, HO1.out, HM.out.cut (by omega) (by omega) hab, HK.out⟩
theorem insF_any (l : List Flt) (g cap N bs a b : Nat) (w : World) (h : OwnF w bs (.slice (some ⟨g, 0, none⟩) N cap) l) (hab : a ≤ b) (hb : b ≤ N) (hN : N ≤ 1048576) :
    Calls Tryd.prog 92 #[(.slice (some ⟨g, 0, none⟩) N cap), .int .i64 (a : Int), .int .i64 (b : Int), .func (.func 54) #[] #[]] w (SrtAns (fun w' l' => OwnF w' bs (.slice (some ⟨g, 0, none⟩) N cap) l') (fun x : Flt => x.prio) l g a b w) := by
  have hl0 := rowF_len h
  have HO := Lib.hid h
  have HL := Lib.hid hl0
  clear h hl0
  go_enter Tryd.func92, Tryd.ntmps92
  go_wp2
  go_loopw [8] (fun t wr => ∃ i : Nat, t = .int .i64 (i : Int) ∧ a < i ∧ (i ≤ b ∨ i = a + 1) ∧ ∃ l1, Hid (OwnF wr bs (.slice (some ⟨g, 0, none⟩) N cap) l1) ∧ Hid (Mrg (fun x : Flt => x.prio) l l1 a i) ∧ Hid (KB (fun k => k = g) w wr)) (fun t _ => N + 2 - (intOf t).toNat)
  case atStart => exact ⟨a + 1, by go_num, by omega, .inr rfl, l, HO.out, Mrg.same (SrtOn.small _ (Nat.le_refl _)), KB.refl _ _⟩
  case round =>
    obtain ⟨i, rfl, hai, hib, l1, HO1, HM, HK⟩ := hrel
    obtain ⟨wo, rfl⟩ : ∃ x : World, x = wr := ⟨_, rfl⟩
    by_cases hlt : i < b
    · have hltz : (i : Int) < (b : Int) := by omega
      go_wp2
      go_loopw [9] (fun t wr2 => ∃ j : Nat, t = .int .i64 (j : Int) ∧ a ≤ j ∧ j ≤ i ∧ ∃ l2, Hid (OwnF wr2 bs (.slice (some ⟨g, 0, none⟩) N cap) l2) ∧ Hid (PreM l l2 a (i + 1)) ∧ Hid (Ins (kF (fun x : Flt => x.prio) l2) a i j) ∧ Hid (KB (fun k => k = g) w wr2)) (fun t _ => (intOf t).toNat)
      case atStart => exact ⟨i, rfl, by omega, Nat.le_refl _, l1, HO1.out, HM.out.wide, Ins.start HM.out.2.1, HK.out⟩
      case round =>
        obtain ⟨j, rfl, haj, hji, l2, HO2, HP, HI, HK2⟩ := hrel
        obtain ⟨wr2, rfl⟩ : ∃ x : World, x = wr := ⟨_, rfl⟩
        have hl2 := Lib.hid (rowF_len HO2.out)
        by_cases hja : a < j
        · obtain ⟨jp, rfl⟩ : ∃ jp, j = jp + 1 := ⟨j - 1, by omega⟩
          have hjl : jp + 1 < l2.length := by rw [hl2.out]; omega
          obtain ⟨x, hx⟩ : ∃ x, l2[jp + 1]? = some x := ⟨_, List.getElem?_eq_getElem hjl⟩
          obtain ⟨y, hy⟩ : ∃ y, l2[jp]? = some y := ⟨_, List.getElem?_eq_getElem (by omega)⟩
          have hkx : kF (fun x : Flt => x.prio) l2 (jp + 1) = x.prio := by simp [kF, hx]
          have hky : kF (fun x : Flt => x.prio) l2 jp = y.prio := by simp [kF, hy]
          have HKX := Lib.hid hkx
          have HKY := Lib.hid hky
          clear hkx hky
          have hwp : IntKind.i64.wrap (jp : Int) = (jp : Int) := by rw [IntKind.wrap_i64]; omega
          have jz : (jp : Int) + 1 < (N : Int) := by omega
          have jz1 : (jp : Int) < (N : Int) := by omega
          have hjaz : (a : Int) < (jp : Int) + 1 := by omega
          have p0 : (0 : Int) ≤ (jp : Int) + 1 := by omega
          have e0 : ((jp : Int) + 1).toNat = jp + 1 := by omega
          obtain ⟨j1, hj1⟩ : ∃ j1, j1 = jp + 1 := ⟨_, rfl⟩
          rw [← hj1] at hx e0
          have J1 := Lib.hid hj1
          clear hj1
          have HX := Lib.hid hx
          have HY := Lib.hid hy
          obtain ⟨⟨xc0, xc1, xc2, xc3, xc4⟩, ⟨xf0, xf1, xf2, xf3, xf4⟩, xg⟩ := rowF HO2.out j1 x hx
          obtain ⟨⟨yc0, yc1, yc2, yc3, yc4⟩, ⟨yf0, yf1, yf2, yf3, yf4⟩, yg⟩ := rowF HO2.out jp y hy
          clear hx hy
          by_cases hk : x.prio < y.prio
          · have hc := cmpI_neg.2 hk
            (go_wp2_with fail; refine wp_region_ext (by kernel_rfl) (by kernel_rfl) ?_; (repeat (first | go_big_quiet_step ((first | (go_at_call 54; exact calls_later (cmpF_any x y _)))) | quiet_step ((first | (go_at_call 54; exact calls_later (cmpF_any x y _)))))); refine wpQuiet_nil ?_; intro wq hbq)
            clear xc0 xc1 xc2 xc3 xc4 xf0 xf1 xf2 xf3 xf4 xg
            clear yc0 yc1 yc2 yc3 yc4 yf0 yf1 yf2 yf3 yf4 yg
            obtain ⟨⟨xc0, xc1, xc2, xc3, xc4⟩, ⟨xf0, xf1, xf2, xf3, xf4⟩, xg⟩ := rowF (Own.ext HO2.out hbq) j1 x HX.out
            obtain ⟨⟨yc0, yc1, yc2, yc3, yc4⟩, ⟨yf0, yf1, yf2, yf3, yf4⟩, yg⟩ := rowF (Own.ext HO2.out hbq) jp y HY.out
            go_wp2_with fail
            go_big_region
            all_goals
              go_wp2_with fail
              go_roundw
              case rel =>
                refine ⟨jp, rfl, by omega, by omega, swp l2 j1 jp, Own.ext (swapRowF (Own.ext HO2.out hbq) j1 jp x y HX.out HY.out) (Ext.refl _).drew, ?_, ?_, ?_⟩
                · rw [J1.out]
                  exact HP.out.swap (by omega) (by omega) (by omega) (by omega) (by rw [HL.out]; omega)
                · rw [J1.out]
                  have := Ins.step HI.out hja hji (by rw [hl2.out]; omega) (by rw [Nat.add_sub_cancel, HKX.out, HKY.out]; exact hk)
                  rwa [Nat.add_sub_cancel] at this
                · refine KB.ext ?_ (Ext.refl _).drew
                  repeat (with_reducible refine KB.set ?_ _ _)
                  exact HK2.out.ext hbq
              case measure => (simp [intOf]; try omega)
          · have hc : ¬ cmpI x.prio y.prio < 0 := fun h => hk (cmpI_neg.1 h)
            (go_wp2_with fail; refine wp_region_ext (by kernel_rfl) (by kernel_rfl) ?_; (repeat (first | go_big_quiet_step ((first | (go_at_call 54; exact calls_later (cmpF_any x y _)))) | quiet_step ((first | (go_at_call 54; exact calls_later (cmpF_any x y _)))))); refine wpQuiet_nil ?_; intro wq hbq)
            clear xc0 xc1 xc2 xc3 xc4 xf0 xf1 xf2 xf3 xf4 xg
            clear yc0 yc1 yc2 yc3 yc4 yf0 yf1 yf2 yf3 yf4 yg
            go_wp2_with fail
            go_roundw
            case rel =>
              exact ⟨i + 1, by go_num, by omega, .inl (by omega), l2, Own.ext HO2.out hbq, HP.out.mrg (Ins.stop HI.out haj hji (.inr (by rw [Nat.add_sub_cancel, HKX.out, HKY.out]; omega))), HK2.out.ext hbq⟩
            case measure => (simp [intOf]; try omega)
        · obtain rfl : j = a := by omega
          (go_wp2_with fail; refine wp_region_ext (by kernel_rfl) (by kernel_rfl) ?_; (repeat (first | go_big_quiet_step (fail) | quiet_step (fail))); refine wpQuiet_nil ?_; intro wq hbq)
          go_wp2_with fail
          go_roundw
          case rel =>
            exact ⟨i + 1, by go_num, by omega, .inl (by omega), l2, Own.ext HO2.out hbq, HP.out.mrg (Ins.stop HI.out haj hji (.inl rfl)), HK2.out.ext hbq⟩
          case measure => (simp [intOf]; try omega)
    · have hge : ¬ (i : Int) < (b : Int) := by omega
      go_wp2_with fail
      go_end0
      exact ⟨rfl, l1, HO1.out, HM.out.cut (by omega) (by omega) hab, HK.out⟩
end Go.Proofs.YtbbenppmfmphfaaDoor
