/- Slices as sources: what is appended to a row of the call's own, whole. -/
import Derived.Test.YtidahgoihgodnaaDoorMem
import Derived.Laws.AppendOwnNone
namespace Go.Proofs.YtidahgoihgodnaaDoor
open Go.RowKit
set_option maxRecDepth 20000
/-- The slice value v is nil and l empty, or it lies in a block and reads as l. -/
def Src {α : Type} (w : World) (k : Nat) (cells : α → List Value) (v : Value) (l : List α) : Prop :=
  (v = .slice none 0 0 ∧ l = []) ∨ ∃ b o c, v = .slice (some ⟨b, o, none⟩) l.length c ∧ l.length ≤ c ∧ c ≤ maxLen ∧
    ∀ i x, l[i]? = some x → b < w.heap.size ∧ ∀ j u, (cells x)[j]? = some u → w.cell? ⟨b, o + i * k + j, none⟩ = some u
theorem Src.rd {α : Type} {w : World} {k : Nat} {cells : α → List Value} {v : Value} {l : List α} (h : Src w k cells v l) : Rd w k cells v l := by
  rcases h with ⟨rfl, rfl⟩ | ⟨b, o, c, rfl, hc, _, h⟩
  · exact ⟨none, 0, rfl, Nat.le_refl _, fun i x hi => by simp at hi⟩
  · exact ⟨_, c, rfl, hc, fun i x hi => ⟨b, o, rfl, (h i x hi).1, (h i x hi).2⟩⟩
theorem Src.ext {α : Type} {w w' : World} {k : Nat} {cells : α → List Value} {v : Value} {l : List α} (h : Src w k cells v l) (hx : Ext w w') : Src w' k cells v l := by
  rcases h with h | ⟨b, o, c, hv, hc, hm, h⟩
  · exact .inl h
  · exact .inr ⟨b, o, c, hv, hc, hm, fun i x hi => ⟨Ext.lts hx _ (h i x hi).1, fun j u hj => (Ext.cell hx (h i x hi).1).trans ((h i x hi).2 j u hj)⟩⟩
theorem Own.src {α : Type} {w : World} {base : Nat} {e : TypeId} {k : Nat} {cells : α → List Value} {v : Value} {l : List α} (h : Own w base e k cells v l) (hk : ∀ x, (cells x).length = k) : Src w k cells v l := by
  obtain ⟨A, c, hv, hc, hr⟩ := Own.rd h hk
  rcases h.2 with ⟨h2, hn⟩ | ⟨g, cap, cur, h2, _, _, hnc, hcm, _⟩
  · exact .inl ⟨h2, List.eq_nil_of_length_eq_zero hn⟩
  · rw [hv] at h2
    injection h2 with h2 _ h3
    subst h2 h3
    refine .inr ⟨g, 0, c, hv, hc, hcm, fun i x hi => ?_⟩
    obtain ⟨b, o, hA, hb, hcell⟩ := hr i x hi
    simp only [Option.some.injEq, Addr.mk.injEq, and_true] at hA
    obtain ⟨rfl, rfl⟩ := hA
    exact ⟨hb, hcell⟩
theorem flat_cell {α : Type} {w : World} {k b o : Nat} {cells : α → List Value} (hk0 : 0 < k) (hk : ∀ x, (cells x).length = k) {l : List α} (h : ∀ i x, l[i]? = some x → ∀ j u, (cells x)[j]? = some u → w.cell? ⟨b, o + i * k + j, none⟩ = some u) :
    ∀ j u, (l.flatMap cells)[j]? = some u → w.cell? ⟨b, o + j, none⟩ = some u := by
  intro j u hj
  have hlt : j < l.length * k := by
    have := (List.getElem?_eq_some_iff.1 hj).1
    rwa [flat_length k cells hk] at this
  have hq : j / k < l.length := Nat.div_lt_of_lt_mul (by rwa [Nat.mul_comm])
  have hr : j % k < k := Nat.mod_lt _ hk0
  have e : j / k * k + j % k = j := by rw [Nat.mul_comm]; exact Nat.div_add_mod j k
  have hf := flat_get k cells hk l (j / k) l[j / k] (List.getElem?_eq_getElem hq) (j % k) hr
  rw [e] at hf
  have := h (j / k) l[j / k] (List.getElem?_eq_getElem hq) (j % k) u (by rw [← hf]; exact hj)
  rwa [Nat.add_assoc, e] at this
/-- 'out = append(out, s...)' onto a row of the call's own. -/
theorem own_app_src {P : Program} {α : Type} {cells : α → List Value} {T E : TypeId} {i : TypeInfo} {z : Value} {k bytes : Nat} (hT : P.underlying T = some (.slice E)) (hi : P.info? E = some i) (hz : i.zero = some z) (hsz : i.size = k) (hby : i.bytes = bytes)
    (hzs : z.cells.size = k) (hk : 0 < k) (hb : bytes ≤ 1024) (hck : ∀ x, (cells x).length = k) (hc1 : ∀ x, ∀ u ∈ cells x, u.oneCell' = true)
    {ops : Array Oper} {rest : List Oper} {o : Oper} {a : Act} {Q : Exit → Act → World → Prop} (w wr : World) (hgd : o.guard = none) (s x : Operand)
    (ho : o.op = .call { callee := .builtin .append, args := #[s, x], argTypes := #[T, T] }) (v y : Value) (l ys : List α)
    (hs : a.eval s = v) (hx : a.eval x = y) (hsrc : Src wr k cells y ys) (hown : Own wr w.heap.size E k cells v l) (hn : l.length + ys.length ≤ 100000000) (hE : Ext w wr)
    (h : ∀ v' w', Own w' w.heap.size E k cells v' (l ++ ys) → Ext w w' → wpList P ops Q rest (a.put o.dst v') w') : wpList P ops Q (o :: rest) a wr := by
  rcases hsrc with ⟨rfl, rfl⟩ | ⟨b, off, c, rfl, hc, hm, hr⟩
  · refine wpList_append_own_none hgd s x T ho w.heap.size E i k hT hi v l.length (l.flatMap cells) hs hown hx ?_
    exact h v wr (by rw [List.append_nil]; exact hown) hE
  · refine wpList_append_own _ hgd s x T ho w.heap.size E i z k bytes hT hi hz hsz hby hzs hk v l.length (l.flatMap cells) hs hown ⟨b, off, none⟩ ys.length c (ys.flatMap cells) hx (flat_length k cells hck ys) ?_ ?_ ?_ ?_ (Ext.size hE) ?_
    · intro j u hj
      have e : ((⟨b, off, none⟩ : Addr).add j) = ⟨b, off + j, none⟩ := by unfold Addr.add; split <;> simp_all
      rw [e]
      exact flat_cell hk hck (fun i x hi => (hr i x hi).2) j u hj
    · intro u hu
      obtain ⟨y, _, hy⟩ := List.mem_flatMap.1 hu
      exact hc1 y u hy
    · unfold maxLen; omega
    · have := Nat.mul_le_mul (show l.length + ys.length ≤ 100000000 from hn) hb
      omega
    · intro v' w' h1 h2 _
      refine h v' w' ?_ (Ext.grown hE h2 (fun g hg => (World.ownsRow.lt hown g hg).1))
      unfold Own
      rw [List.flatMap_append, List.length_append]
      exact h1
/-- The first n of a source. -/
theorem Src.take {α : Type} {w : World} {k b o c : Nat} {cells : α → List Value} {l : List α} (h : Src w k cells (.slice (some ⟨b, o, none⟩) l.length c) l) (n : Nat) (hn : n ≤ l.length) : Src w k cells (.slice (some ⟨b, o, none⟩) n c) (l.take n) := by
  rcases h with ⟨h, _⟩ | ⟨b', o', c', hv, hc, hm, h⟩
  · cases h
  · injection hv with h1 _ h2
    cases h1
    subst h2
    have e : (l.take n).length = n := by simp; omega
    refine .inr ⟨b, o, c, by rw [e], by omega, hm, fun i x hi => h i x ?_⟩
    rw [List.getElem?_take] at hi
    split at hi
    · exact hi
    · cases hi
/-- What is left behind the first n. -/
theorem Src.drop {α : Type} {w : World} {k b o c : Nat} {cells : α → List Value} {l : List α} (h : Src w k cells (.slice (some ⟨b, o, none⟩) l.length c) l) (n : Nat) : Src w k cells (.slice (some ⟨b, o + n * k, none⟩) (l.length - n) (c - n)) (l.drop n) := by
  rcases h with ⟨h, _⟩ | ⟨b', o', c', hv, hc, hm, h⟩
  · cases h
  · injection hv with h1 _ h2
    cases h1
    subst h2
    refine .inr ⟨b, o + n * k, c - n, by rw [List.length_drop], by rw [List.length_drop]; omega, by omega, fun i x hi => ?_⟩
    rw [List.getElem?_drop] at hi
    have := h (n + i) x hi
    rw [show o + (n + i) * k = o + n * k + i * k by rw [Nat.add_mul]; omega] at this
    exact this
theorem Src.none_left {α : Type} (w : World) (k b o c : Nat) (cells : α → List Value) (hc : c ≤ maxLen) : Src w k cells (.slice (some ⟨b, o, none⟩) 0 c) ([] : List α) :=
  .inr ⟨b, o, c, rfl, by simp, hc, fun i x hi => by simp at hi⟩
end Go.Proofs.YtidahgoihgodnaaDoor
