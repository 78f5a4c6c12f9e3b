/- Appending onto a row of the call's own while other blocks of the call are kept. -/
import Derived.Test.YtidahgoihgodnaaDoorCfgR
namespace Go.Proofs.YtidahgoihgodnaaDoor
open Go.RowKit
set_option maxRecDepth 20000
set_option linter.unusedSimpArgs false
set_option linter.unusedVariables false

theorem Blk.grown {w w' : World} {g : Nat} {t : TypeId} {cs : Array Value} {row : Option Nat} (h : Blk w g t cs) (hg : w.grownBy w' row) (hr : row ≠ some g) : Blk w' g t cs :=
  (hg.block g h.lt (fun e => hr e.symm)).trans h
theorem Blk.kept {w : World} {g g' : Nat} {t : TypeId} {cs : Array Value} (h : Blk w g t cs) (hne : g' ≠ g) (i : Nat) (u : Value) : Blk (w.setCell ⟨g', i, none⟩ u) g t cs := by
  unfold Blk at h ⊢
  rw [Below.heap_setCell _ _ _ _ (fun e => hne e.symm)]
  exact h
/-- 'out = append(out, x, y, ..)' onto a row of the call's own, from base bs on: nothing but that row turns. -/
theorem own_appg {P : Program} {α : Type} {cells : α → List Value} {T E : TypeId} {i : TypeInfo} {z : Value} {k bytes : Nat} (hT : P.underlying T = some (.slice E)) (hi : P.info? E = some i) (hz : i.zero = some z) (hsz : i.size = k) (hby : i.bytes = bytes)
    (hzs : z.cells.size = k) (hk : 0 < k) (hb : bytes ≤ 1024) (hck : ∀ x, (cells x).length = k) (hc1 : ∀ x, ∀ u ∈ cells x, u.oneCell' = true)
    {ops : Array Oper} {rest : List Oper} {o : Oper} {a : Act} {Q : Exit → Act → World → Prop} (bs : Nat) (wr : World) (hgd : o.guard = none) (s x : Operand)
    (ho : o.op = .call { callee := .builtin .append, args := #[s, x], argTypes := #[T, T] }) (v : Value) (l : List α) (y : α) (ys : List Value) (hy : ys = cells y)
    (hs : a.eval s = v) (hx : a.eval x = .slice (some ⟨wr.heap.size, 0, none⟩) 1 1) (hown : Own wr bs E k cells v l) (hn : l.length ≤ 10000000) (hE : bs ≤ wr.heap.size)
    (h : ∀ v' w', Own w' bs E k cells v' (l ++ [y]) → (wr.alloc (.cells ys.toArray E)).grownBy w' v.ownBlock → wpList P ops Q rest (a.put o.dst v') w') : wpList P ops Q (o :: rest) a (wr.alloc (.cells ys.toArray E)) := by
  subst hy
  refine wpList_append_own _ hgd s x T ho bs E i z k bytes hT hi hz hsz hby hzs hk v l.length (l.flatMap cells) hs (World.ownsRow.alloc hown _) ⟨wr.heap.size, 0, none⟩ 1 1 (cells y) hx (by rw [hck]; omega) ?_ ?_ ?_ ?_ ?_ ?_
  · intro j u hj
    have e : ((⟨wr.heap.size, 0, none⟩ : Addr).add j) = ⟨wr.heap.size, j, none⟩ := by unfold Addr.add; split <;> simp_all
    rw [e]
    simp only [World.cell?, heap_alloc_new, Option.isSome_none, Bool.false_eq_true, if_false]
    simpa using hj
  · intro u hu
    exact hc1 y u hu
  · unfold maxLen; omega
  · have := Nat.mul_le_mul (show l.length + 1 ≤ 100000000 by omega) hb
    omega
  · simp; omega
  · intro v' w' h1 h2 _
    refine h v' w' ?_ h2
    unfold Own
    rw [List.flatMap_append, List.length_append]
    simpa using h1
/-- A configuration's four cells, which may be written. -/
theorem C4.blk {w : World} {g : Nat} {T : TypeId} {a0 a1 a2 a3 : Value} (h : Blk w g T #[a0, a1, a2, a3]) :
    (w.cell? ⟨g, 0, none⟩ = some a0 ∧ w.cell? ⟨g, 1, none⟩ = some a1 ∧ w.cell? ⟨g, 2, none⟩ = some a2 ∧ w.cell? ⟨g, 3, none⟩ = some a3) ∧
    (w.frozen? ⟨g, 0, none⟩ = false ∧ w.frozen? ⟨g, 1, none⟩ = false ∧ w.frozen? ⟨g, 2, none⟩ = false ∧ w.frozen? ⟨g, 3, none⟩ = false) ∧ g < w.heap.size := by
  have hl := h.lt
  unfold Blk at h
  exact ⟨⟨by simp [World.cell?, h], by simp [World.cell?, h], by simp [World.cell?, h], by simp [World.cell?, h]⟩, ⟨by simp [World.frozen?, h], by simp [World.frozen?, h], by simp [World.frozen?, h], by simp [World.frozen?, h]⟩, hl⟩
theorem app_gC {ops : Array Oper} {rest : List Oper} {o : Oper} {a : Act} {Q : Exit → Act → World → Prop} {wr : World} {v : Value} {l : List Cls} {y : Cls} {bs : Nat} {s x : Operand} (hown : OwnC wr bs v l) (hn : l.length ≤ 10000000) (hE : bs ≤ wr.heap.size)
    (hgd : o.guard = none) (ho : o.op = .call { callee := .builtin .append, args := #[s, x], argTypes := #[27, 27] })
    (hs : a.eval s = v) (hx : a.eval x = .slice (some ⟨wr.heap.size, 0, none⟩) 1 1)
    (h : ∀ v' w', OwnC w' bs v' (l ++ [y]) → (wr.alloc (.cells #[.int .i64 y.id, .int .i64 y.parent, .int .i64 y.rate, .int .i64 y.ceil, .int .i64 y.burst, .int .i64 y.cburst, .int .i64 y.prio, .int .i64 y.limit] 47)).grownBy w' v.ownBlock → wpList Tryd.prog ops Q rest (a.put o.dst v') w') : wpList Tryd.prog ops Q (o :: rest) a (wr.alloc (.cells #[.int .i64 y.id, .int .i64 y.parent, .int .i64 y.rate, .int .i64 y.ceil, .int .i64 y.burst, .int .i64 y.cburst, .int .i64 y.prio, .int .i64 y.limit] 47)) := by
  obtain ⟨i0, ii0, ii1, ii2, ii3⟩ := info_parts info_Class
  exact own_appg Tryd.underlying27 ii0 ii1 ii2 ii3 rfl (by omega) (by omega) Cls.len cls_one bs wr hgd s x ho v l y _ rfl hs hx hown hn hE h
theorem app_gF {ops : Array Oper} {rest : List Oper} {o : Oper} {a : Act} {Q : Exit → Act → World → Prop} {wr : World} {v : Value} {l : List Flt} {y : Flt} {bs : Nat} {s x : Operand} (hown : OwnF wr bs v l) (hn : l.length ≤ 10000000) (hE : bs ≤ wr.heap.size)
    (hgd : o.guard = none) (ho : o.op = .call { callee := .builtin .append, args := #[s, x], argTypes := #[28, 28] })
    (hs : a.eval s = v) (hx : a.eval x = .slice (some ⟨wr.heap.size, 0, none⟩) 1 1)
    (h : ∀ v' w', OwnF w' bs v' (l ++ [y]) → (wr.alloc (.cells #[.int .i64 y.prio, .int .i64 y.field, .int .i64 y.mask, .int .i64 y.value, .int .i64 y.target] 66)).grownBy w' v.ownBlock → wpList Tryd.prog ops Q rest (a.put o.dst v') w') : wpList Tryd.prog ops Q (o :: rest) a (wr.alloc (.cells #[.int .i64 y.prio, .int .i64 y.field, .int .i64 y.mask, .int .i64 y.value, .int .i64 y.target] 66)) := by
  obtain ⟨i0, ii0, ii1, ii2, ii3⟩ := info_parts info_Filter5
  exact own_appg Tryd.underlying28 ii0 ii1 ii2 ii3 rfl (by omega) (by omega) Flt.len flt_one bs wr hgd s x ho v l y _ rfl hs hx hown hn hE h
end Go.Proofs.YtidahgoihgodnaaDoor
