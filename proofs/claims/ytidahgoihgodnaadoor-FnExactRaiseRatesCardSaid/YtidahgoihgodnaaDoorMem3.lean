/- Worlds in which some rows are written. -/
import Derived.Test.YtidahgoihgodnaaDoorMem2
namespace Go.Proofs.YtidahgoihgodnaaDoor
open Go.RowKit
set_option maxRecDepth 20000
/-- All blocks but those of S are as they were; new ones may be there. -/
structure KB (S : Nat → Prop) (w w' : World) : Prop where
  os : w'.os = w.os
  tape : w'.tape = w.tape
  output : w'.output = w.output
  size : w.heap.size ≤ w'.heap.size
  block : ∀ k, k < w.heap.size → ¬ S k → w'.heap[k]? = w.heap[k]?
theorem KB.of_grown {w w' : World} {row : Option Nat} (h : w.grownBy w' row) : KB (fun k => row = some k) w w' :=
  ⟨h.os, h.tape, h.output, h.size, fun k hk hn => h.block k hk (fun e => hn e.symm)⟩
theorem KB.of_ext {w w' : World} (h : Ext w w') : KB (fun _ => False) w w' := by
  have hb : Below w.heap.size w w' := h
  exact ⟨hb.os, hb.tape, hb.output, hb.size, fun k hk _ => hb.block k hk⟩
theorem KB.trans {S T : Nat → Prop} {a b c : World} (h : KB S a b) (k : KB T b c) : KB (fun i => S i ∨ T i) a c :=
  ⟨k.os.trans h.os, k.tape.trans h.tape, k.output.trans h.output, Nat.le_trans h.size k.size, fun i hi hn => (k.block i (Nat.lt_of_lt_of_le hi h.size) (fun e => hn (.inr e))).trans (h.block i hi (fun e => hn (.inl e)))⟩
theorem KB.mono {S T : Nat → Prop} {a b : World} (h : KB S a b) (hS : ∀ i, S i → T i) : KB T a b :=
  ⟨h.os, h.tape, h.output, h.size, fun i hi hn => h.block i hi (fun e => hn (hS i e))⟩
theorem Ext.kb {r a b : World} {S : Nat → Prop} (h : Ext r a) (k : KB S a b) (hS : ∀ i, S i → r.heap.size ≤ i) : Ext r b := by
  have hb : Below r.heap.size r a := h
  exact ⟨k.os.trans hb.os, k.tape.trans hb.tape, k.output.trans hb.output, Nat.le_trans hb.size k.size, fun i hi => (k.block i (Nat.lt_of_lt_of_le hi hb.size) (fun e => absurd (hS i e) (by omega))).trans (hb.block i hi)⟩
theorem Own.kb {α : Type} {a b : World} {S : Nat → Prop} {base : Nat} {e : TypeId} {k : Nat} {cells : α → List Value} {v : Value} {l : List α} (h : Own a base e k cells v l) (hk : KB S a b) (hS : ∀ g, v.ownBlock = some g → ¬ S g) : Own b base e k cells v l := by
  obtain ⟨h1, h2⟩ := h
  refine ⟨h1, ?_⟩
  rcases h2 with h2 | ⟨g, cap, cur, hv, hb, hh, r⟩
  · exact Or.inl h2
  · refine Or.inr ⟨g, cap, cur, hv, hb, (hk.block g (lt_of_block hh) ?_).trans hh, r⟩
    subst hv
    exact hS g rfl
theorem Own.setCell {α : Type} {w : World} {base : Nat} {e : TypeId} {k : Nat} {cells : α → List Value} {v : Value} {l : List α} (h : Own w base e k cells v l) {g : Nat} (hg : g < base) (i : Nat) (u : Value) : Own (w.setCell ⟨g, i, none⟩ u) base e k cells v l :=
  Own.kept h (grown_setCell (World.grownBy.refl w (some g)) i u) (fun g' hg' => .inl (by cases hg'; exact hg))
/-- Rows of different types lie in different blocks. -/
theorem Own.apart {α β : Type} {w : World} {b b' : Nat} {e e' : TypeId} {k k' : Nat} {cells : α → List Value} {cells' : β → List Value} {v v' : Value} {l : List α} {l' : List β} (h : Own w b e k cells v l) (h' : Own w b' e' k' cells' v' l') (hne : e ≠ e') :
    ∀ g, v.ownBlock = some g → v'.ownBlock ≠ some g := by
  intro g hg hg'
  rcases h.2 with ⟨h1, _⟩ | ⟨g1, c1, cur1, h1, _, hh1, _⟩
  · subst h1; cases hg
  · rcases h'.2 with ⟨h2, _⟩ | ⟨g2, c2, cur2, h2, _, hh2, _⟩
    · subst h2; cases hg'
    · subst h1 h2
      have e1 : g1 = g := by simpa [Value.ownBlock] using hg
      have e2 : g2 = g := by simpa [Value.ownBlock] using hg'
      subst e1
      rw [e2, hh1] at hh2
      injection hh2 with hh2
      injection hh2 with _ h3 _
      exact hne h3
end Go.Proofs.YtidahgoihgodnaaDoor
