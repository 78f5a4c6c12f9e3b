/- Slices that read as lists. -/
import Derived.Test.YtnamgkiealfffaaDoorBase
namespace Go.Proofs.YtnamgkiealfffaaDoor
open Go.RowKit
set_option maxRecDepth 20000
/-- The slice value v reads as the list l: the element x lies in the k cells 'cells x', one element behind the other. -/
def Rd {α : Type} (w : World) (k : Nat) (cells : α → List Value) (v : Value) (l : List α) : Prop :=
  ∃ (A : Option Addr) (c : Nat), v = .slice A l.length c ∧ l.length ≤ c ∧
    ∀ i x, l[i]? = some x → ∃ b o, A = some ⟨b, o, none⟩ ∧ b < w.heap.size ∧ ∀ j u, (cells x)[j]? = some u → w.cell? ⟨b, o + i * k + j, none⟩ = some u
theorem Rd.ext {α : Type} {w w' : World} {k : Nat} {cells : α → List Value} {v : Value} {l : List α} (h : Rd w k cells v l) (hx : Ext w w') : Rd w' k cells v l := by
  obtain ⟨A, c, hv, hc, h⟩ := h
  refine ⟨A, c, hv, hc, fun i x hi => ?_⟩
  obtain ⟨b, o, hA, hb, hcell⟩ := h i x hi
  exact ⟨b, o, hA, Ext.lts hx _ hb, fun j u hj => (Ext.cell hx hb).trans (hcell j u hj)⟩
/-- Cells of a list, element behind element. -/
theorem flat_get {α : Type} (k : Nat) (cells : α → List Value) (hk : ∀ x, (cells x).length = k) : ∀ (l : List α) (i : Nat) (x : α), l[i]? = some x → ∀ j, j < k → (l.flatMap cells)[i * k + j]? = (cells x)[j]? := by
  intro l
  induction l with
  | nil => intro i x h; simp at h
  | cons y l ih =>
    intro i x h j hj
    rw [List.flatMap_cons]
    match i, h with
    | 0, h =>
      simp at h
      subst h
      rw [Nat.zero_mul, Nat.zero_add, List.getElem?_append_left (by rw [hk]; exact hj)]
    | i + 1, h =>
      rw [List.getElem?_append_right (by rw [hk, Nat.succ_mul]; omega), hk, show (i + 1) * k + j - k = i * k + j by rw [Nat.succ_mul]; omega]
      exact ih i x (by simpa using h) j hj
theorem flat_length {α : Type} (k : Nat) (cells : α → List Value) (hk : ∀ x, (cells x).length = k) (l : List α) : (l.flatMap cells).length = l.length * k := by
  induction l with
  | nil => simp
  | cons y l ih => rw [List.flatMap_cons, List.length_append, ih, hk, List.length_cons, Nat.succ_mul]; omega
/-- The slice value v is a row of its own, from block 'base' on: it holds l. -/
def Own {α : Type} (w : World) (base : Nat) (e : TypeId) (k : Nat) (cells : α → List Value) (v : Value) (l : List α) : Prop := w.ownsRow base e k v l.length (l.flatMap cells)
theorem Own.rd {α : Type} {w : World} {base : Nat} {e : TypeId} {k : Nat} {cells : α → List Value} {v : Value} {l : List α} (h : Own w base e k cells v l) (hk : ∀ x, (cells x).length = k) : Rd w k cells v l := by
  obtain ⟨h1, h2⟩ := h
  rcases h2 with ⟨rfl, hn⟩ | ⟨g, cap, cur, rfl, hg, hh, hnc, hcm, hcs, hcur⟩
  · have : l = [] := List.eq_nil_of_length_eq_zero hn
    subst this
    exact ⟨none, 0, rfl, Nat.le_refl _, fun i x hi => by simp at hi⟩
  · refine ⟨_, cap, rfl, hnc, fun i x hi => ⟨g, 0, rfl, ?_, fun j u hj => ?_⟩⟩
    · exact lt_of_block hh
    · have hjk : j < k := by rw [← hk x]; exact (List.getElem?_eq_some_iff.1 hj).1
      have hf := (flat_get k cells hk l i x hi j hjk).trans hj
      have hil : i < l.length := (List.getElem?_eq_some_iff.1 hi).1
      have hlt : i * k + j < l.length * k := by
        have := Nat.mul_le_mul_right k (Nat.succ_le_of_lt hil)
        rw [Nat.succ_mul] at this
        omega
      rw [← hcur, List.getElem?_take_of_lt hlt] at hf
      simp only [World.cell?, hh, Option.isSome_none, Bool.false_eq_true, if_false, Nat.zero_add]
      rw [← Array.getElem?_toList]
      exact hf
theorem Own.ext {α : Type} {w w' : World} {base : Nat} {e : TypeId} {k : Nat} {cells : α → List Value} {v : Value} {l : List α} (h : Own w base e k cells v l) (hx : Ext w w') : Own w' base e k cells v l := by
  obtain ⟨h1, h2⟩ := h
  refine ⟨h1, ?_⟩
  rcases h2 with h2 | ⟨g, cap, cur, hv, hg, hh, r⟩
  · exact Or.inl h2
  · exact Or.inr ⟨g, cap, cur, hv, hg, (Ext.block hx (lt_of_block hh)).trans hh, r⟩
theorem Own.mono {α : Type} {w : World} {base base' : Nat} {e : TypeId} {k : Nat} {cells : α → List Value} {v : Value} {l : List α} (h : Own w base e k cells v l) (hb : base' ≤ base) : Own w base' e k cells v l := by
  obtain ⟨h1, h2⟩ := h
  refine ⟨h1, ?_⟩
  rcases h2 with h2 | ⟨g, cap, cur, hv, hg, hh, r⟩
  · exact Or.inl h2
  · exact Or.inr ⟨g, cap, cur, hv, Nat.le_trans hb hg, hh, r⟩
/-- It stays a row while another row is written. -/
theorem Own.kept {α : Type} {w w' : World} {base : Nat} {e : TypeId} {k : Nat} {cells : α → List Value} {v : Value} {l : List α} {row : Option Nat} (h : Own w base e k cells v l) (hg : w.grownBy w' row) (hr : ∀ g, row = some g → g < base ∨ v.ownBlock ≠ some g) : Own w' base e k cells v l := by
  obtain ⟨h1, h2⟩ := h
  refine ⟨h1, ?_⟩
  rcases h2 with h2 | ⟨g, cap, cur, hv, hb, hh, r⟩
  · exact Or.inl h2
  · refine Or.inr ⟨g, cap, cur, hv, hb, (hg.block g (lt_of_block hh) ?_).trans hh, r⟩
    intro e
    subst hv
    rcases hr g e.symm with h | h
    · omega
    · exact h rfl
theorem Own.lt {α : Type} {w : World} {base : Nat} {e : TypeId} {k : Nat} {cells : α → List Value} {v : Value} {l : List α} (h : Own w base e k cells v l) : ∀ g, v.ownBlock = some g → base ≤ g ∧ g < w.heap.size := World.ownsRow.lt h

/-- 'out = append(out, x, y, ..)' onto a row of the call's own. -/
theorem own_app {P : Program} {α : Type} {cells : α → List Value} {T E : TypeId} {i : TypeInfo} {z : Value} {k bytes : Nat} (hT : P.underlying T = some (.slice E)) (hi : P.info? E = some i) (hz : i.zero = some z) (hsz : i.size = k) (hby : i.bytes = bytes)
    (hzs : z.cells.size = k) (hk : 0 < k) (hb : bytes ≤ 1024) (hck : ∀ x, (cells x).length = k) (hc1 : ∀ x, ∀ u ∈ cells x, u.oneCell' = true)
    {ops : Array Oper} {rest : List Oper} {o : Oper} {a : Act} {Q : Exit → Act → World → Prop} (w wr : World) (hgd : o.guard = none) (s x : Operand)
    (ho : o.op = .call { callee := .builtin .append, args := #[s, x], argTypes := #[T, T] }) (v : Value) (l : List α) (ys : List α) (cs : List Value) (hcs : cs = ys.flatMap cells) (c : Nat)
    (hs : a.eval s = v) (hx : a.eval x = .slice (some ⟨wr.heap.size, 0, none⟩) ys.length c) (hown : Own wr w.heap.size E k cells v l) (hn : l.length + ys.length ≤ 100000000) (hE : Ext w wr)
    (h : ∀ v' w', Own w' w.heap.size E k cells v' (l ++ ys) → Ext w w' → wpList P ops Q rest (a.put o.dst v') w') : wpList P ops Q (o :: rest) a (wr.alloc (.cells cs.toArray E)) := by
  subst hcs
  refine wpList_append_own _ hgd s x T ho w.heap.size E i z k bytes hT hi hz hsz hby hzs hk v l.length (l.flatMap cells) hs (World.ownsRow.alloc hown _) ⟨wr.heap.size, 0, none⟩ ys.length c (ys.flatMap cells) hx (flat_length k cells hck ys) ?_ ?_ ?_ ?_ ?_ ?_
  · intro j u hj
    have e : ((⟨wr.heap.size, 0, none⟩ : Addr).add j) = ⟨wr.heap.size, j, none⟩ := by unfold Addr.add; split <;> simp_all
    rw [e]
    simp only [World.cell?, heap_alloc_new, Option.isSome_none, Bool.false_eq_true, if_false]
    simpa using hj
  · intro u hu
    obtain ⟨y, _, hy⟩ := List.mem_flatMap.1 hu
    exact hc1 y u hy
  · unfold maxLen; omega
  · have := Nat.mul_le_mul (show l.length + ys.length ≤ 100000000 from hn) hb
    omega
  · have := Ext.size hE
    simp; omega
  · intro v' w' h1 h2 _
    refine h v' w' ?_ (Ext.grown (hE.alloc _) h2 (fun g hg => (World.ownsRow.lt hown g hg).1))
    unfold Own
    rw [List.flatMap_append, List.length_append]
    exact h1
/-- 'out = append(out, x)' onto a row of the call's own. -/
theorem own_app1 {P : Program} {α : Type} {cells : α → List Value} {T E : TypeId} {i : TypeInfo} {z : Value} {k bytes : Nat} (hT : P.underlying T = some (.slice E)) (hi : P.info? E = some i) (hz : i.zero = some z) (hsz : i.size = k) (hby : i.bytes = bytes)
    (hzs : z.cells.size = k) (hk : 0 < k) (hb : bytes ≤ 1024) (hck : ∀ x, (cells x).length = k) (hc1 : ∀ x, ∀ u ∈ cells x, u.oneCell' = true)
    {ops : Array Oper} {rest : List Oper} {o : Oper} {a : Act} {Q : Exit → Act → World → Prop} (w wr : World) (hgd : o.guard = none) (s x : Operand)
    (ho : o.op = .call { callee := .builtin .append, args := #[s, x], argTypes := #[T, T] }) (v : Value) (l : List α) (y : α) (ys : List Value) (hy : ys = cells y)
    (hs : a.eval s = v) (hx : a.eval x = .slice (some ⟨wr.heap.size, 0, none⟩) 1 1) (hown : Own wr w.heap.size E k cells v l) (hn : l.length ≤ 10000000) (hE : Ext w wr)
    (h : ∀ v' w', Own w' w.heap.size E k cells v' (l ++ [y]) → Ext w w' → wpList P ops Q rest (a.put o.dst v') w') : wpList P ops Q (o :: rest) a (wr.alloc (.cells ys.toArray E)) :=
  own_app hT hi hz hsz hby hzs hk hb hck hc1 w wr hgd s x ho v l [y] ys (by simp [hy]) 1 hs hx hown (by simp; omega) hE h
/-- bytes -/
def bcell (x : Int) : List Value := [.int .u8 x]
theorem bcell_len (x : Int) : (bcell x).length = 1 := rfl
theorem flat_bcell (l : List Int) : l.flatMap bcell = l.map (Value.int .u8) := by
  induction l with
  | nil => rfl
  | cons x l ih => rw [List.flatMap_cons, ih]; rfl
theorem conv_own {P : Program} {w : World} {base : Nat} {T E S : TypeId} (hT : P.underlying T = some (.slice E)) (hE : P.underlying E = some (.int .u8)) (hS : P.underlying S = some .string) {v : Value} {xs : List Int} (h : Own w base E 1 bcell v xs) :
    (convert T S v).run P w = .ok (.string (strOfNums xs)) w := by
  obtain ⟨h1, h2⟩ := h
  rcases h2 with ⟨rfl, hn⟩ | ⟨g, cap, cur, rfl, hg, hh, hnc, hcm, hcs, hcur⟩
  · have : xs = [] := List.eq_nil_of_length_eq_zero hn
    subst this
    exact run_convert_bytes_nil w T E hT hE 0 0 S hS
  · refine run_convert_bytes_arg w T E hT hE g 0 xs.length cap xs rfl (fun i hi => ?_) S hS
    have hf : (xs.flatMap bcell)[i]? = some (.int .u8 (xs.getD i 0)) := by
      rw [flat_bcell]
      simp [hi]
    rw [← hcur, List.getElem?_take_of_lt (by omega)] at hf
    simp only [World.cell?, hh, Option.isSome_none, Bool.false_eq_true, if_false, Nat.zero_add]
    rw [← Array.getElem?_toList]
    exact hf
/-- Block g is just the cells cs of element type t, none of them frozen. -/
def Blk (w : World) (g : Nat) (t : TypeId) (cs : Array Value) : Prop := w.heap[g]? = some (.cells cs t (0, 0))
theorem Blk.lt {w : World} {g : Nat} {t : TypeId} {cs : Array Value} (h : Blk w g t cs) : g < w.heap.size := lt_of_block h
theorem Blk.cell {w : World} {g : Nat} {t : TypeId} {cs : Array Value} (h : Blk w g t cs) (i : Nat) (hi : i < cs.size) : ∃ u, w.cell? ⟨g, i, none⟩ = some u := by
  unfold Blk at h
  exact ⟨cs[i], by simp [World.cell?, h, hi]⟩
theorem Blk.frozen {w : World} {g : Nat} {t : TypeId} {cs : Array Value} (h : Blk w g t cs) (i : Nat) : w.frozen? ⟨g, i, none⟩ = false := by
  unfold Blk at h
  simp [World.frozen?, h]
theorem Blk.set_ {w : World} {g : Nat} {t : TypeId} {cs : Array Value} (h : Blk w g t cs) (i : Nat) (u : Value) : Blk (w.setCell ⟨g, i, none⟩ u) g t (cs.setIfInBounds i u) := by
  unfold Blk at h ⊢
  simp [World.setCell, Array.getElem?_modify, h]
theorem Blk.ext {w w' : World} {g : Nat} {t : TypeId} {cs : Array Value} (h : Blk w g t cs) (hx : Ext w w') : Blk w' g t cs := (Ext.block hx h.lt).trans h
theorem Blk.new (w : World) (t : TypeId) (cs : Array Value) : Blk (w.alloc (.cells cs t)) w.heap.size t cs := heap_alloc_new w _
theorem take_set_next {α : Type} {L : List α} {m : Nat} (h : m < L.length) {P : List α} (hP : L.take m = P) (c : α) : (L.set m c).take (m + 1) = P ++ [c] := by
  rw [List.take_succ_eq_append_getElem (by simpa using h), List.take_set_of_le (Nat.le_refl _), hP]
  simp
theorem grown_setCell {a w : World} {g : Nat} (h : a.grownBy w (some g)) (i : Nat) (u : Value) : a.grownBy (w.setCell ⟨g, i, none⟩ u) (some g) :=
  ⟨h.os, h.tape, h.output, by simpa [World.setCell] using h.size, fun j hj hne => (Below.heap_setCell _ _ _ _ (by rintro rfl; exact hne rfl)).trans (h.block j hj hne)⟩
theorem grown_ext {a w w' : World} {row : Option Nat} (h : a.grownBy w row) (hx : Ext w w') : a.grownBy w' row := by
  have hb : Below w.heap.size w w' := hx
  exact ⟨hb.os.trans h.os, hb.tape.trans h.tape, hb.output.trans h.output, Nat.le_trans h.size hb.size, fun j hj hne => (hb.block j (Nat.lt_of_lt_of_le hj h.size)).trans (h.block j hj hne)⟩
theorem Own.of_blk {α : Type} {w : World} {base g cap : Nat} {e : TypeId} {k : Nat} {cells : α → List Value} {l : List α} {cs : Array Value} (h : Blk w g e cs) (hb : base ≤ g) (hn : l.length ≤ cap) (hm : cap ≤ maxLen) (hs : cs.size = cap * k)
    (ht : cs.toList.take (l.length * k) = l.flatMap cells) (hck : ∀ x, (cells x).length = k) : Own w base e k cells (.slice (some ⟨g, 0, none⟩) l.length cap) l :=
  ⟨flat_length k cells hck l, Or.inr ⟨g, cap, cs, rfl, hb, h, hn, hm, hs, ht⟩⟩
theorem run_make_rowN {P : Program} (t e : TypeId) (i : TypeInfo) (z : Value) (ht : P.underlying t = some (.slice e)) (hi : P.info? e = some i) (hz : i.zero = some z)
    (kl kc : IntKind) (n : Nat) (hbytes : i.bytes * n ≤ 281474976710656) (h63 : n ≤ 9223372036854775807) (w : World) :
    (Instr.makeSlice t (.int kl (n : Int)) (.int kc (n : Int))).run P w = .ok (.slice (some ⟨w.heap.size, 0, none⟩) n n) (w.alloc (.cells (madeCells z.cells (n * i.size)) e)) := by
  have hb : (i.bytes : Int) * (n : Int) ≤ 281474976710656 := by
    have h : ((i.bytes * n : Nat) : Int) ≤ 281474976710656 := by omega
    rwa [Int.natCast_mul] at h
  have hr := run_make (P := P) w t e i z ht hi hz kl kc n n (by omega) (by omega) hb (by omega)
  simp only [Int.toNat_natCast] at hr
  exact hr
/-- The marked elements from k on, f numbers an element. -/
def mksOf {α : Type} (mk : Int → α) (f k : Int) (n : Nat) : List α := (List.range n).map fun (i : Nat) => mk (k + f * (i : Int))
theorem mksOf_len {α : Type} (mk : Int → α) (f k : Int) (n : Nat) : (mksOf mk f k n).length = n := by simp [mksOf]
theorem mksOf_get {α : Type} (mk : Int → α) (f k : Int) (n i : Nat) (h : i < n) : (mksOf mk f k n)[i]? = some (mk (k + f * i)) := by simp [mksOf, h]
theorem mksOf_succ {α : Type} (mk : Int → α) (f k : Int) (n : Nat) : mksOf mk f k (n + 1) = mksOf mk f k n ++ [mk (k + f * n)] := by simp [mksOf, List.range_succ]

/-! ### ints -/
def icell (x : Int) : List Value := [.int .i64 x]
abbrev RdI (w : World) (v : Value) (l : List Int) : Prop := Rd w 1 icell v l
abbrev OwnI (w : World) (base : Nat) (e : TypeId) (v : Value) (l : List Int) : Prop := Own w base e 1 icell v l
theorem icell_len (x : Int) : (icell x).length = 1 := rfl
theorem flat_icell (l : List Int) : l.flatMap icell = l.map (Value.int .i64) := by
  induction l with
  | nil => rfl
  | cons x l ih => rw [List.flatMap_cons, ih]; rfl
/-- k, k+1, .. -/
def marks (k : Int) (n : Nat) : List Int := (List.range n).map fun (i : Nat) => k + (i : Int)
theorem marks_len (k : Int) (n : Nat) : (marks k n).length = n := by simp [marks]
theorem marks_get (k : Int) (n i : Nat) (h : i < n) : (marks k n)[i]? = some (k + i) := by simp [marks, h]
theorem marks_succ (k : Int) (n : Nat) : marks k (n + 1) = marks k n ++ [k + n] := by simp [marks, List.range_succ]

structure Att where
  depth : Int
  type : Int
  nested : Bool
  data : ByteArray
def Att.cells (x : Att) : List Value := [.int .i64 x.depth, .int .i64 x.type, .bool x.nested, .string x.data]
structure Cls where
  id : Int
  parent : Int
  rate : Int
  ceil : Int
  burst : Int
  cburst : Int
  prio : Int
  limit : Int
def Cls.cells (x : Cls) : List Value := [.int .i64 x.id, .int .i64 x.parent, .int .i64 x.rate, .int .i64 x.ceil, .int .i64 x.burst, .int .i64 x.cburst, .int .i64 x.prio, .int .i64 x.limit]
structure Flt where
  prio : Int
  field : Int
  mask : Int
  value : Int
  target : Int
def Flt.cells (x : Flt) : List Value := [.int .i64 x.prio, .int .i64 x.field, .int .i64 x.mask, .int .i64 x.value, .int .i64 x.target]
theorem Att.len (x : Att) : x.cells.length = 4 := rfl
theorem Cls.len (x : Cls) : x.cells.length = 8 := rfl
theorem Flt.len (x : Flt) : x.cells.length = 5 := rfl
abbrev RdA (w : World) (v : Value) (l : List Att) : Prop := Rd w 4 Att.cells v l
abbrev RdC (w : World) (v : Value) (l : List Cls) : Prop := Rd w 8 Cls.cells v l
abbrev RdF (w : World) (v : Value) (l : List Flt) : Prop := Rd w 5 Flt.cells v l
abbrev attV (x : Att) : Value := .agg #[.int .i64 x.depth, .int .i64 x.type, .bool x.nested, .string x.data]
abbrev clsV (x : Cls) : Value := .agg #[.int .i64 x.id, .int .i64 x.parent, .int .i64 x.rate, .int .i64 x.ceil, .int .i64 x.burst, .int .i64 x.cburst, .int .i64 x.prio, .int .i64 x.limit]
abbrev fltW (x : Flt) : Value := .agg #[.int .i64 x.prio, .int .i64 x.field, .int .i64 x.mask, .int .i64 x.value, .int .i64 x.target]
end Go.Proofs.YtnamgkiealfffaaDoor
