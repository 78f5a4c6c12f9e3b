/- Contracts: the attributes of a class or a filter. -/
import Derived.Test.YtifhjhgccknndaaDoorNum
import Derived.Test.YtifhjhgccknndaaDoorInts
import Derived.Test.YtifhjhgccknndaaDoorAttrS
namespace Go.Proofs.YtifhjhgccknndaaDoor
open Go.RowKit
set_option maxHeartbeats 1000000
set_option linter.unusedSimpArgs false
set_option linter.unusedVariables false

def inAll (a b : Int) : List Int → Bool
  | [] => true
  | x :: r => inR x a b && inAll a b r
theorem inAll_step (a b : Int) (l : List Int) (k : Nat) (h : k < l.length) : inAll a b (l.drop k) = (inR l[k] a b && inAll a b (l.drop (k + 1))) := by
  rw [List.drop_eq_getElem_cons h]
  rfl
theorem inAll_mem {a b : Int} {l : List Int} (h : inAll a b l = true) : ∀ x ∈ l, a ≤ x ∧ x ≤ b := by
  induction l with
  | nil => simp
  | cons y l ih =>
    simp only [inAll, Bool.and_eq_true, inR_iff] at h
    intro x hx
    rcases List.mem_cons.1 hx with rfl | hx
    · exact h.1
    · exact ih h.2 x hx

theorem impl_areValues_any (v : Value) (l : List Int) (w : World) (h : RdI w v l) (hl : l.length ≤ 1048576) :
    Calls Tryd.prog 29 #[v] w fun e w' => e = .returned (.bool (inAll 0 1000000000 l)) ∧ Ext w w' := by
  obtain ⟨A, c, rfl, hc, hrd⟩ := h
  have HR := Lib.hid hrd
  clear hrd
  go_enter Tryd.func29, Tryd.ntmps29
  go_wp2
  go_loopw [7] (fun t wr => ∃ k : Nat, k ≤ l.length ∧ t = .int .i64 (k : Int) ∧ Hid (inAll 0 1000000000 l = inAll 0 1000000000 (l.drop k)) ∧ Ext w wr) (fun t _ => l.length - (intOf t).toNat)
  case atStart => exact ⟨0, Nat.zero_le _, rfl, rfl, Ext.refl _⟩
  case round =>
    obtain ⟨k, hk, rfl, hg, hx⟩ := hrel
    by_cases hlt : k < l.length
    · obtain ⟨b, o, rfl, hb, hcell⟩ := HR.out k l[k] (List.getElem?_eq_getElem hlt)
      have hst := inAll_step 0 1000000000 l k hlt
      generalize l[k] = x at hcell hst
      have HST := Lib.hid hst
      have c0 : wr.cell? ⟨b, o + k, none⟩ = some (.int .i64 x) := by rw [Ext.cell hx hb]; simpa using hcell 0 _ rfl
      clear hcell hst
      by_cases hr : inR x 0 1000000000 = true
      · go_wp2_with (go_at_call 28; refine (impl_isValue_any _ _ ).mono ?_; rintro e w' ⟨rfl, rfl⟩)
        go_roundw
        case rel => exact ⟨k + 1, by omega, by go_num, by have := hg.out; rw [HST.out, hr] at this; show _ = _; simpa using this, hx⟩
        case measure => simp [intOf]; omega
      · replace hr : inR x 0 1000000000 = false := by simpa using hr
        go_wp2_with (go_at_call 28; refine (impl_isValue_any _ _ ).mono ?_; rintro e w' ⟨rfl, rfl⟩)
        go_ret
        exact ⟨by have := hg.out; rw [HST.out, hr] at this; rw [this]; rfl, hx⟩
    · obtain rfl : k = l.length := by omega
      go_wp2
      go_ret
      exact ⟨by have := hg.out; rw [List.drop_length] at this; rw [this]; rfl, hx⟩

theorem spec_l1All_any (v : Value) (l : List Int) (p q : Int) (w : World) (h : RdI w v l) (hl : l.length ≤ 1048576) :
    Calls Tryd.prog 60 #[v, .int .i64 p, .int .i64 q] w fun e w' => e = .returned (.bool (inAll p q l)) ∧ Ext w w' := by
  obtain ⟨A, c, rfl, hc, hrd⟩ := h
  have HR := Lib.hid hrd
  clear hrd
  go_enter Tryd.func60, Tryd.ntmps60
  go_wp2
  go_loopw [11] (fun t wr => ∃ k : Nat, k ≤ l.length ∧ t = .int .i64 (k : Int) ∧ Hid (inAll p q l = inAll p q (l.drop k)) ∧ Ext w wr) (fun t _ => l.length - (intOf t).toNat)
  case atStart => exact ⟨0, Nat.zero_le _, rfl, rfl, Ext.refl _⟩
  case round =>
    obtain ⟨k, hk, rfl, hg, hx⟩ := hrel
    by_cases hlt : k < l.length
    · obtain ⟨b, o, rfl, hb, hcell⟩ := HR.out k l[k] (List.getElem?_eq_getElem hlt)
      have hst := inAll_step p q l k hlt
      generalize l[k] = x at hcell hst
      have HST := Lib.hid hst
      have c0 : wr.cell? ⟨b, o + k, none⟩ = some (.int .i64 x) := by rw [Ext.cell hx hb]; simpa using hcell 0 _ rfl
      clear hcell hst
      by_cases hr : inR x p q = true
      · go_wp2_with (go_at_call 61; refine (spec_l1In_any _ _ _ _ ).mono ?_; rintro e w' ⟨rfl, rfl⟩)
        go_roundw
        case rel => exact ⟨k + 1, by omega, by go_num, by have := hg.out; rw [HST.out, hr] at this; show _ = _; simpa using this, hx⟩
        case measure => simp [intOf]; omega
      · replace hr : inR x p q = false := by simpa using hr
        go_wp2_with (go_at_call 61; refine (spec_l1In_any _ _ _ _ ).mono ?_; rintro e w' ⟨rfl, rfl⟩)
        go_ret
        exact ⟨by have := hg.out; rw [HST.out, hr] at this; rw [this]; rfl, hx⟩
    · obtain rfl : k = l.length := by omega
      go_wp2
      go_ret
      exact ⟨by have := hg.out; rw [List.drop_length] at this; rw [this]; rfl, hx⟩

theorem spec_enValues_any (v : Value) (l : List Int) (w : World) (h : RdI w v l) (hl : l.length ≤ 1048576) :
    Calls Tryd.prog 43 #[v] w fun e w' => e = .returned (.bool (inAll 0 1000000000 l)) ∧ Ext w w' := by
  go_enter Tryd.func43, Tryd.ntmps43
  go_wp2_with fail
  refine (spec_l1All_any _ l _ _ _ h hl).mono ?_
  rintro e w1 ⟨rfl, hb⟩
  go_wp2
  go_ret
  exact ⟨rfl, hb⟩

def Flt.nums (x : Flt) : List Int := [x.prio, x.field, x.mask, x.value, x.target]
def Cls.nums (x : Cls) : List Int := [x.id, x.parent, x.rate, x.ceil, x.burst, x.cburst, x.prio, x.limit]
theorem own_lit_ints (w : World) (l : List Int) (n : Nat) (hn : l.length = n) (hm : n ≤ 1000) (base : Nat) (hb : base ≤ w.heap.size) :
    OwnI (w.alloc (.cells (l.map (Value.int .i64)).toArray 3)) base 3 (.slice (some ⟨w.heap.size, 0, none⟩) n n) l := by
  subst hn
  have := World.ownsRow_lit (base := base) (e := 3) (size := 1) w (l.map (Value.int .i64)).toArray l.length hb (by unfold maxLen; omega) (by simp)
  unfold OwnI Own
  rw [flat_icell]
  simpa using this
theorem impl_filterNumbers_any (x : Flt) (w : World) :
    Calls Tryd.prog 31 #[fltW x] w fun e w' => ∃ v, e = .returned v ∧ OwnI w' w.heap.size 3 v x.nums ∧ Ext w w' := by
  go_enter Tryd.func31, Tryd.ntmps31
  go_wp2
  go_ret
  refine ⟨_, rfl, ?_, ((Ext.refl _).alloc _).alloc _⟩
  have := own_lit_ints (w.alloc (.cells x.cells.toArray 57)) x.nums 5 rfl (by omega) w.heap.size (by simp)
  simp at this
  exact this

theorem spec_enFilter_any (x : Flt) (w : World) :
    Calls Tryd.prog 45 #[fltW x] w fun e w' => ∃ v, e = .returned v ∧ OwnI w' w.heap.size 3 v x.nums ∧ Ext w w' := by
  go_enter Tryd.func45, Tryd.ntmps45
  go_wp2
  go_ret
  refine ⟨_, rfl, ?_, ((Ext.refl _).alloc _).alloc _⟩
  have := own_lit_ints (w.alloc (.cells x.cells.toArray 57)) x.nums 5 rfl (by omega) w.heap.size (by simp)
  simp at this
  exact this

theorem impl_classNumbers_any (x : Cls) (w : World) :
    Calls Tryd.prog 30 #[clsV x] w fun e w' => ∃ v, e = .returned v ∧ OwnI w' w.heap.size 3 v x.nums ∧ Ext w w' := by
  go_enter Tryd.func30, Tryd.ntmps30
  go_wp2
  go_ret
  refine ⟨_, rfl, ?_, ((Ext.refl _).alloc _).alloc _⟩
  have := own_lit_ints (w.alloc (.cells x.cells.toArray 52)) x.nums 8 rfl (by omega) w.heap.size (by simp)
  simp at this
  exact this

theorem spec_enNumbers_any (x : Cls) (w : World) :
    Calls Tryd.prog 44 #[clsV x] w fun e w' => ∃ v, e = .returned v ∧ OwnI w' w.heap.size 3 v x.nums ∧ Ext w w' := by
  go_enter Tryd.func44, Tryd.ntmps44
  go_wp2
  go_ret
  refine ⟨_, rfl, ?_, ((Ext.refl _).alloc _).alloc _⟩
  have := own_lit_ints (w.alloc (.cells x.cells.toArray 52)) x.nums 8 rfl (by omega) w.heap.size (by simp)
  simp at this
  exact this

/-- The attributes of a class or a filter. -/
def itemsFrom (i : Int) : List Int → List Att
  | [] => []
  | n :: r => ⟨3, i, false, numBytes n⟩ :: itemsFrom (i + 1) r
def items (kind : Int) (l : List Int) : List Att := ⟨2, kind, true, ⟨#[]⟩⟩ :: itemsFrom 1 l
theorem itemsFrom_snoc (i : Int) (l : List Int) (n : Int) : itemsFrom i (l ++ [n]) = itemsFrom i l ++ [⟨3, i + l.length, false, numBytes n⟩] := by
  induction l generalizing i with
  | nil => simp [itemsFrom]
  | cons x l ih =>
    simp only [List.cons_append, itemsFrom, ih, List.length_cons]
    congr 3
    push_cast
    congr 1
    omega
theorem items_len (kind : Int) (l : List Int) : (items kind l).length = l.length + 1 := by
  have : ∀ i, (itemsFrom i l).length = l.length := by
    induction l with
    | nil => intro i; rfl
    | cons x l ih => intro i; simp [itemsFrom, ih]
  simp [items, this]
theorem items_snoc (kind : Int) (l : List Int) (n : Int) : items kind (l ++ [n]) = items kind l ++ [⟨3, 1 + l.length, false, numBytes n⟩] := by
  simp [items, itemsFrom_snoc]
theorem app_att {ops : Array Oper} {rest : List Oper} {o : Oper} {a : Act} {Q : Exit → Act → World → Prop} {w wr : World} {v : Value} {l : List Att} {d t : Int} {n : Bool} {dt : ByteArray} {s x : Operand} (hown : Own wr w.heap.size 63 4 Att.cells v l) (hn : l.length ≤ 10000000) (hE : Ext w wr)
    (hgd : o.guard = none) (ho : o.op = .call { callee := .builtin .append, args := #[s, x], argTypes := #[35, 35] })
    (hs : a.eval s = v) (hx : a.eval x = .slice (some ⟨wr.heap.size, 0, none⟩) 1 1)
    (h : ∀ v' w', Own w' w.heap.size 63 4 Att.cells v' (l ++ [⟨d, t, n, dt⟩]) → Ext w w' → wpList Tryd.prog ops Q rest (a.put o.dst v') w') : wpList Tryd.prog ops Q (o :: rest) a (wr.alloc (.cells #[.int .i64 d, .int .i64 t, .bool n, .string dt] 63)) := by
  obtain ⟨i0, ii0, ii1, ii2, ii3⟩ := info_parts info_Attr
  exact own_app1 Tryd.underlying35 ii0 ii1 ii2 ii3 rfl (by omega) (by omega) Att.len (fun x u hu => by simp [Att.cells] at hu; rcases hu with rfl | rfl | rfl | rfl <;> rfl) w wr hgd s x ho v l ⟨d, t, n, dt⟩ _ rfl hs hx hown hn hE h
theorem impl_partAttrs_any (kind : Int) (v : Value) (l : List Int) (w : World) (h : RdI w v l) (hl : l.length ≤ 1000) (hv : inAll 0 1000000000 l = true) :
    Calls Tryd.prog 36 #[.int .i64 kind, v] w fun e w' => ∃ u, e = .returned u ∧ Own w' w.heap.size 63 4 Att.cells u (items kind l) ∧ Ext w w' := by
  obtain ⟨A, c, rfl, hc, hrd⟩ := h
  have HR := Lib.hid hrd
  have HM := Lib.hid (inAll_mem hv)
  clear hrd hv
  go_enter Tryd.func36, Tryd.ntmps36
  go_wp2
  go_loopw [13, 5] (fun t s wr => ∃ k : Nat, k ≤ l.length ∧ t = .int .i64 (k : Int) ∧ Own wr w.heap.size 63 4 Att.cells s (items kind (l.take k)) ∧ Ext w wr) (fun t _ _ => l.length - (intOf t).toNat)
  case atStart =>
    refine ⟨0, Nat.zero_le _, rfl, ?_, (Ext.refl _).alloc _⟩
    have := World.ownsRow_lit (base := w.heap.size) (e := 63) (size := 4) w #[.int .i64 2, .int .i64 kind, .bool true, .string ⟨#[]⟩] 1 (Nat.le_refl _) (by unfold maxLen; omega) rfl
    exact this
  case round =>
    obtain ⟨k, hk, rfl, hown, hx⟩ := hrel
    have HO := Lib.hid hown
    clear hown
    by_cases hlt : k < l.length
    · obtain ⟨b, o, rfl, hb, hcell⟩ := HR.out k l[k] (List.getElem?_eq_getElem hlt)
      have hbd := HM.out l[k] (List.getElem_mem hlt)
      have htk := List.take_succ_eq_append_getElem hlt
      generalize l[k] = x at hcell hbd htk
      obtain ⟨x0, x1⟩ := hbd
      have HT := Lib.hid htk
      have c0 : wr.cell? ⟨b, o + k, none⟩ = some (.int .i64 x) := by rw [Ext.cell hx hb]; simpa using hcell 0 _ rfl
      have hln : (items kind (l.take k)).length ≤ 10000000 := by rw [items_len]; simp; omega
      clear hcell htk
      go_wp2_with fail
      refine (impl_numberData_any _ _ (by omega) (by omega)).mono ?_
      rintro e w1 ⟨rfl, hb1⟩
      clear c0
      go_wp2_with (at_builtin; refine app_att (Own.ext HO.out hb1) hln (hx.trans hb1) rfl rfl rfl rfl ?_; intro v1 w2 hown1 hx2)
      have HO1 := Lib.hid hown1
      clear hown1
      go_wp2
      go_roundw
      case rel =>
        refine ⟨k + 1, by omega, by go_num, ?_, hx2⟩
        rw [HT.out, items_snoc]
        have := HO1.out
        rwa [show (1 : Int) + ((l.take k).length : Int) = (k : Int) + 1 by simp; omega]
      case measure => simp [intOf]; omega
    · obtain rfl : k = l.length := by omega
      go_wp2
      go_ret
      refine ⟨_, rfl, ?_, hx⟩
      have := HO.out
      rwa [List.take_length] at this

theorem spec_enItem_any (kind : Int) (v : Value) (l : List Int) (w : World) (h : RdI w v l) (hl : l.length ≤ 1000) (hv : inAll 0 1000000000 l = true) :
    Calls Tryd.prog 55 #[.int .i64 kind, v] w fun e w' => ∃ u, e = .returned u ∧ Own w' w.heap.size 63 4 Att.cells u (items kind l) ∧ Ext w w' := by
  obtain ⟨A, c, rfl, hc, hrd⟩ := h
  have HR := Lib.hid hrd
  have HM := Lib.hid (inAll_mem hv)
  clear hrd hv
  go_enter Tryd.func55, Tryd.ntmps55
  go_wp2
  go_loopw [13, 5] (fun t s wr => ∃ k : Nat, k ≤ l.length ∧ t = .int .i64 (k : Int) ∧ Own wr w.heap.size 63 4 Att.cells s (items kind (l.take k)) ∧ Ext w wr) (fun t _ _ => l.length - (intOf t).toNat)
  case atStart =>
    refine ⟨0, Nat.zero_le _, rfl, ?_, (Ext.refl _).alloc _⟩
    have := World.ownsRow_lit (base := w.heap.size) (e := 63) (size := 4) w #[.int .i64 2, .int .i64 kind, .bool true, .string ⟨#[]⟩] 1 (Nat.le_refl _) (by unfold maxLen; omega) rfl
    exact this
  case round =>
    obtain ⟨k, hk, rfl, hown, hx⟩ := hrel
    have HO := Lib.hid hown
    clear hown
    by_cases hlt : k < l.length
    · obtain ⟨b, o, rfl, hb, hcell⟩ := HR.out k l[k] (List.getElem?_eq_getElem hlt)
      have hbd := HM.out l[k] (List.getElem_mem hlt)
      have htk := List.take_succ_eq_append_getElem hlt
      generalize l[k] = x at hcell hbd htk
      obtain ⟨x0, x1⟩ := hbd
      have HT := Lib.hid htk
      have c0 : wr.cell? ⟨b, o + k, none⟩ = some (.int .i64 x) := by rw [Ext.cell hx hb]; simpa using hcell 0 _ rfl
      have hln : (items kind (l.take k)).length ≤ 10000000 := by rw [items_len]; simp; omega
      clear hcell htk
      go_wp2_with fail
      refine (spec_enData_any _ _ (by omega) (by omega)).mono ?_
      rintro e w1 ⟨rfl, hb1⟩
      clear c0
      go_wp2_with (at_builtin; refine app_att (Own.ext HO.out hb1) hln (hx.trans hb1) rfl rfl rfl rfl ?_; intro v1 w2 hown1 hx2)
      have HO1 := Lib.hid hown1
      clear hown1
      go_wp2
      go_roundw
      case rel =>
        refine ⟨k + 1, by omega, by go_num, ?_, hx2⟩
        rw [HT.out, items_snoc]
        have := HO1.out
        rwa [show (1 : Int) + ((l.take k).length : Int) = (k : Int) + 1 by simp; omega]
      case measure => simp [intOf]; omega
    · obtain rfl : k = l.length := by omega
      go_wp2
      go_ret
      refine ⟨_, rfl, ?_, hx⟩
      have := HO.out
      rwa [List.take_length] at this

def itB (l : List Int) : Bool := inAll 0 1000000000 l
def itV (kind : Int) (l : List Int) : List Att := if itB l then items kind l else []
theorem itV_len (kind : Int) (l : List Int) (h : l.length ≤ 100) : (itV kind l).length ≤ 101 := by
  unfold itV
  split
  · rw [items_len]; omega
  · simp
end Go.Proofs.YtifhjhgccknndaaDoor
