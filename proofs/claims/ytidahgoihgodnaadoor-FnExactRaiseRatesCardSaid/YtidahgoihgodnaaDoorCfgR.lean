/- Results that are configurations; rows of a call's own that are written at one element. -/
import Derived.Test.YtidahgoihgodnaaDoorCfgS
import Derived.Test.YtidahgoihgodnaaDoorMem2
namespace Go.Proofs.YtidahgoihgodnaaDoor
open Go.RowKit
set_option maxRecDepth 20000
set_option maxHeartbeats 1000000
set_option linter.unusedSimpArgs false
set_option linter.unusedVariables false

/-- A configuration and whether there is one. -/
structure CfgR where
  name : ByteArray
  cls : List Cls
  flt : List Flt
  dfl : Int
  ok : Bool
def noCfg : CfgR := ⟨⟨#[]⟩, [], [], 0, false⟩
/-- What a function returns that makes a configuration. -/
def RetC (R : CfgR) (w : World) (e : Ending) (w' : World) : Prop :=
  ∃ u1 u2, e = .returned (.tuple #[cfgV R.name u1 u2 R.dfl, .bool R.ok]) ∧ OwnC w' w.heap.size u1 R.cls ∧ OwnF w' w.heap.size u2 R.flt ∧ Ext w w'
abbrev SrcC (w : World) (v : Value) (l : List Cls) : Prop := Src w 8 Cls.cells v l
abbrev SrcF (w : World) (v : Value) (l : List Flt) : Prop := Src w 5 Flt.cells v l
theorem Box.kb {a b : World} {S : Nat → Prop} {g : Nat} {n : ByteArray} {cv fv : Value} {d : Int} (h : Box a g n cv fv d) (hk : KB S a b) (hS : ¬ S g) : Box b g n cv fv d := by
  obtain ⟨h0, h1, h2, h3, h4⟩ := h
  have hb := hk.block g h4 hS
  refine ⟨?_, ?_, ?_, ?_, Nat.lt_of_lt_of_le h4 hk.size⟩
  · simp only [World.cell?, hb]; exact h0
  · simp only [World.cell?, hb]; exact h1
  · simp only [World.cell?, hb]; exact h2
  · simp only [World.cell?, hb]; exact h3
theorem RetC.no {w w' : World} (h : Ext w w') : RetC noCfg w (.returned (.tuple #[cfgV ⟨#[]⟩ (.slice none 0 0) (.slice none 0 0) 0, .bool false])) w' :=
  ⟨_, _, rfl, World.ownsRow_nil _ _ _ _, World.ownsRow_nil _ _ _ _, h⟩
/-- Cells of a list with one element turned. -/
theorem flat_set {α : Type} (k : Nat) (cells : α → List Value) (hk : ∀ x, (cells x).length = k) : ∀ (l : List α) (i : Nat) (x x' : α) (j : Nat) (u : Value), l[i]? = some x → j < k → cells x' = (cells x).set j u →
    (l.flatMap cells).set (i * k + j) u = (l.set i x').flatMap cells := by
  intro l
  induction l with
  | nil => intro i x x' j u h; simp at h
  | cons y l ih =>
    intro i x x' j u h hj hc
    match i, h with
    | 0, h =>
      simp at h
      subst h
      rw [Nat.zero_mul, Nat.zero_add, List.set_cons_zero, List.flatMap_cons, List.flatMap_cons, hc, List.set_append_left _ _ (by rw [hk]; exact hj)]
    | i + 1, h =>
      rw [List.set_cons_succ, List.flatMap_cons, List.flatMap_cons, List.set_append_right _ _ (by rw [hk, Nat.succ_mul]; omega), hk, show (i + 1) * k + j - k = i * k + j by rw [Nat.succ_mul]; omega]
      rw [ih i x x' j u (by simpa using h) hj hc]
/-- A row of one's own that is not empty: its block. -/
theorem Own.blk {α : Type} {w : World} {base : Nat} {e : TypeId} {k : Nat} {cells : α → List Value} {v : Value} {l : List α} (h : Own w base e k cells v l) (hl : 0 < l.length) :
    ∃ (g cap : Nat) (cs : Array Value), v = .slice (some ⟨g, 0, none⟩) l.length cap ∧ base ≤ g ∧ g < w.heap.size ∧ Blk w g e cs ∧ l.length ≤ cap ∧ cap ≤ maxLen ∧ cs.size = cap * k ∧ cs.toList.take (l.length * k) = l.flatMap cells := by
  rcases h.2 with ⟨_, hn⟩ | ⟨g, cap, cur, hv, hg, hh, hnc, hcm, hcs, hcur⟩
  · omega
  · exact ⟨g, cap, cur, hv, hg, lt_of_block hh, hh, hnc, hcm, hcs, hcur⟩
/-- It stays a row when one cell of an element is written. -/
theorem Own.set_at {α : Type} {w : World} {base : Nat} {e : TypeId} {k g cap : Nat} {cells : α → List Value} {l : List α} (h : Own w base e k cells (.slice (some ⟨g, 0, none⟩) l.length cap) l) (i j : Nat) (x x' : α) (u : Value)
    (hx : l[i]? = some x) (hj : j < k) (hck : ∀ x, (cells x).length = k) (hc : cells x' = (cells x).set j u) :
    Own (w.setCell ⟨g, i * k + j, none⟩ u) base e k cells (.slice (some ⟨g, 0, none⟩) (l.set i x').length cap) (l.set i x') := by
  have hi : i < l.length := (List.getElem?_eq_some_iff.1 hx).1
  obtain ⟨g', cap', cs, hv, hb, hlt, hB, hnc, hcm, hcs, hcur⟩ := Own.blk h (by omega)
  injection hv with h1 h2 h3
  cases h1
  subst h3
  have hlen : (l.set i x').length = l.length := by simp
  have hle : i * k + j < l.length * k := by
    have := Nat.mul_le_mul_right k (Nat.succ_le_of_lt hi)
    rw [Nat.succ_mul] at this
    omega
  refine Own.of_blk (hB.set_ (i * k + j) u) hb (by rw [hlen]; exact hnc) hcm (by simpa using hcs) ?_ hck
  rw [hlen, ← flat_set k cells hck l i x x' j u hx hj hc, ← hcur, Array.toList_setIfInBounds]
  exact List.take_set ..
/-- The cell of an element of a row, and that it may be written. -/
theorem Own.cell_at {α : Type} {w : World} {base : Nat} {e : TypeId} {k g cap : Nat} {cells : α → List Value} {l : List α} (h : Own w base e k cells (.slice (some ⟨g, 0, none⟩) l.length cap) l) (i j : Nat) (x : α) (u : Value)
    (hx : l[i]? = some x) (hck : ∀ x, (cells x).length = k) (hu : (cells x)[j]? = some u) :
    w.cell? ⟨g, i * k + j, none⟩ = some u ∧ w.frozen? ⟨g, i * k + j, none⟩ = false := by
  have hi : i < l.length := (List.getElem?_eq_some_iff.1 hx).1
  obtain ⟨g', cap', cs, hv, hb, hlt, hB, _⟩ := Own.blk h (by omega)
  injection hv with h1
  cases h1
  refine ⟨?_, hB.frozen _⟩
  obtain ⟨A, c, hv', _, hr⟩ := Own.rd h hck
  injection hv' with h1
  obtain ⟨b, o, hA, _, hcell⟩ := hr i x hx
  rw [← h1] at hA
  simp only [Option.some.injEq, Addr.mk.injEq, and_true] at hA
  obtain ⟨rfl, rfl⟩ := hA
  simpa using hcell j u hu
theorem info_Filter5 : (Tryd.prog.info? 66).map (fun i => (i.zero, i.size, i.bytes)) = some (some (.agg #[.int .i64 0, .int .i64 0, .int .i64 0, .int .i64 0, .int .i64 0]), 5, 40) := by kernel_rfl
theorem cls_one (x : Cls) : ∀ u ∈ Cls.cells x, u.oneCell' = true := fun u hu => by
  simp [Cls.cells] at hu
  rcases hu with rfl | rfl | rfl | rfl | rfl | rfl | rfl | rfl <;> rfl
theorem flt_one (x : Flt) : ∀ u ∈ Flt.cells x, u.oneCell' = true := fun u hu => by
  simp [Flt.cells] at hu
  rcases hu with rfl | rfl | rfl | rfl | rfl <;> rfl
theorem app_srcC {ops : Array Oper} {rest : List Oper} {o : Oper} {a : Act} {Q : Exit → Act → World → Prop} {w wr : World} {v y : Value} {l ys : List Cls} {bs : Nat} {s x : Operand} (hbs : w.heap.size = bs) (hown : OwnC wr bs v l) (hsrc : SrcC wr y ys) (hn : l.length + ys.length ≤ 100000000) (hE : Ext w wr)
    (hgd : o.guard = none) (ho : o.op = .call { callee := .builtin .append, args := #[s, x], argTypes := #[27, 27] })
    (hs : a.eval s = v) (hx : a.eval x = y)
    (h : ∀ v' w', OwnC w' bs v' (l ++ ys) → Ext w w' → wpList Tryd.prog ops Q rest (a.put o.dst v') w') : wpList Tryd.prog ops Q (o :: rest) a wr := by
  subst hbs
  obtain ⟨i0, ii0, ii1, ii2, ii3⟩ := info_parts info_Class
  exact own_app_src Tryd.underlying27 ii0 ii1 ii2 ii3 rfl (by omega) (by omega) Cls.len cls_one w wr hgd s x ho v y l ys hs hx hsrc hown hn hE h
theorem app_srcF {ops : Array Oper} {rest : List Oper} {o : Oper} {a : Act} {Q : Exit → Act → World → Prop} {w wr : World} {v y : Value} {l ys : List Flt} {bs : Nat} {s x : Operand} (hbs : w.heap.size = bs) (hown : OwnF wr bs v l) (hsrc : SrcF wr y ys) (hn : l.length + ys.length ≤ 100000000) (hE : Ext w wr)
    (hgd : o.guard = none) (ho : o.op = .call { callee := .builtin .append, args := #[s, x], argTypes := #[28, 28] })
    (hs : a.eval s = v) (hx : a.eval x = y)
    (h : ∀ v' w', OwnF w' bs v' (l ++ ys) → Ext w w' → wpList Tryd.prog ops Q rest (a.put o.dst v') w') : wpList Tryd.prog ops Q (o :: rest) a wr := by
  subst hbs
  obtain ⟨i0, ii0, ii1, ii2, ii3⟩ := info_parts info_Filter5
  exact own_app_src Tryd.underlying28 ii0 ii1 ii2 ii3 rfl (by omega) (by omega) Flt.len flt_one w wr hgd s x ho v y l ys hs hx hsrc hown hn hE h
theorem app_oneC {ops : Array Oper} {rest : List Oper} {o : Oper} {a : Act} {Q : Exit → Act → World → Prop} {w wr : World} {v : Value} {l : List Cls} {y : Cls} {bs : Nat} {s x : Operand} (hbs : w.heap.size = bs) (hown : OwnC wr bs v l) (hn : l.length ≤ 10000000) (hE : Ext w wr)
    (hgd : o.guard = none) (ho : o.op = .call { callee := .builtin .append, args := #[s, x], argTypes := #[27, 27] })
    (hs : a.eval s = v) (hx : a.eval x = .slice (some ⟨wr.heap.size, 0, none⟩) 1 1)
    (h : ∀ v' w', OwnC w' bs v' (l ++ [y]) → Ext w w' → wpList Tryd.prog ops Q rest (a.put o.dst v') w') : wpList Tryd.prog ops Q (o :: rest) a (wr.alloc (.cells #[.int .i64 y.id, .int .i64 y.parent, .int .i64 y.rate, .int .i64 y.ceil, .int .i64 y.burst, .int .i64 y.cburst, .int .i64 y.prio, .int .i64 y.limit] 47)) := by
  subst hbs
  obtain ⟨i0, ii0, ii1, ii2, ii3⟩ := info_parts info_Class
  exact own_app1 Tryd.underlying27 ii0 ii1 ii2 ii3 rfl (by omega) (by omega) Cls.len cls_one w wr hgd s x ho v l y _ rfl hs hx hown hn hE h
theorem app_oneF {ops : Array Oper} {rest : List Oper} {o : Oper} {a : Act} {Q : Exit → Act → World → Prop} {w wr : World} {v : Value} {l : List Flt} {y : Flt} {bs : Nat} {s x : Operand} (hbs : w.heap.size = bs) (hown : OwnF wr bs v l) (hn : l.length ≤ 10000000) (hE : Ext w wr)
    (hgd : o.guard = none) (ho : o.op = .call { callee := .builtin .append, args := #[s, x], argTypes := #[28, 28] })
    (hs : a.eval s = v) (hx : a.eval x = .slice (some ⟨wr.heap.size, 0, none⟩) 1 1)
    (h : ∀ v' w', OwnF w' bs v' (l ++ [y]) → Ext w w' → wpList Tryd.prog ops Q rest (a.put o.dst v') w') : wpList Tryd.prog ops Q (o :: rest) a (wr.alloc (.cells #[.int .i64 y.prio, .int .i64 y.field, .int .i64 y.mask, .int .i64 y.value, .int .i64 y.target] 66)) := by
  subst hbs
  obtain ⟨i0, ii0, ii1, ii2, ii3⟩ := info_parts info_Filter5
  exact own_app1 Tryd.underlying28 ii0 ii1 ii2 ii3 rfl (by omega) (by omega) Flt.len flt_one w wr hgd s x ho v l y _ rfl hs hx hown hn hE h
end Go.Proofs.YtidahgoihgodnaaDoor
