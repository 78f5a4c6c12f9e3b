/- Contracts: attributes wrapped. -/
import Derived.Test.YtifhjhgccknndaaAttU
namespace Go.Proofs.Ytifhjhgccknndaa
open Go.RowKit
set_option maxHeartbeats 1000000
set_option linter.unusedSimpArgs false
set_option linter.unusedVariables false

def deeper (x : Att) : Att := ⟨x.depth + 1, x.type, x.nested, x.data⟩
def wrapL (kind : Int) (l : List Att) : List Att := ⟨1, kind, true, ⟨#[]⟩⟩ :: l.map deeper
theorem wrapL_len (kind : Int) (l : List Att) : (wrapL kind l).length = l.length + 1 := by simp [wrapL]
theorem wrapL_snoc (kind : Int) (l : List Att) (x : Att) : wrapL kind (l ++ [x]) = wrapL kind l ++ [⟨x.depth + 1, x.type, x.nested, x.data⟩] := by simp [wrapL, deeper]
def wrB (kind : Int) (l : List Att) : Bool := goodB l && goodB (wrapL kind l)
def wrV (kind : Int) (l : List Att) : List Att := if wrB kind l then wrapL kind l else []
theorem wrV_len (kind : Int) (l : List Att) : (wrV kind l).length ≤ l.length + 1 := by
  unfold wrV
  split
  · rw [wrapL_len]; omega
  · simp

theorem app_att2 {ops : Array Oper} {rest : List Oper} {o : Oper} {a : Act} {Q : Exit → Act → World → Prop} {w wr : World} {v : Value} {l : List Att} {d t : Int} {n : Bool} {dt : ByteArray} {s x : Operand} {H : Nat} (hown : Own wr w.heap.size 62 4 Att.cells v l) (hn : l.length ≤ 10000000) (hE : Ext w wr)
    (hgd : o.guard = none) (ho : o.op = .call { callee := .builtin .append, args := #[s, x], argTypes := #[25, 25] })
    (hs : a.eval s = v) (hx : a.eval x = .slice (some ⟨H, 0, none⟩) 1 1) (hh : wr.heap.size = H)
    (h : ∀ v' w', Own w' w.heap.size 62 4 Att.cells v' (l ++ [⟨d, t, n, dt⟩]) → Ext w w' → wpList Try.prog ops Q rest (a.put o.dst v') w') : wpList Try.prog ops Q (o :: rest) a (wr.alloc (.cells #[.int .i64 d, .int .i64 t, .bool n, .string dt] 62)) := by
  subst hh
  exact app_att hown hn hE hgd ho hs hx h

theorem spec_tvWrap_any (kind : Int) (v : Value) (l : List Att) (w : World) (h : RdA w v l) (hg : goodB l = true) :
    Calls Try.prog 73 #[.int .i64 kind, v] w fun e w' => ∃ u, e = .returned u ∧ Own w' w.heap.size 62 4 Att.cells u (wrapL kind l) ∧ Ext w w' := by
  obtain ⟨A, c, rfl, hc, hrd⟩ := h
  have HR := Lib.hid hrd
  have hl4 := (good_get hg).1
  have HM := Lib.hid (good_get hg).2.2.2
  clear hrd hg
  go_enter Try.func73, Try.ntmps73
  go_wp2
  go_loopw [13, 5] (fun t s wr => ∃ k : Nat, k ≤ l.length ∧ t = .int .i64 (k : Int) ∧ Own wr w.heap.size 62 4 Att.cells s (wrapL kind (l.take k)) ∧ Ext w wr) (fun t _ _ => l.length - (intOf t).toNat)
  case atStart =>
    refine ⟨0, Nat.zero_le _, rfl, ?_, (Ext.refl _).alloc _⟩
    have := World.ownsRow_lit (base := w.heap.size) (e := 62) (size := 4) w #[.int .i64 1, .int .i64 kind, .bool true, .string ⟨#[]⟩] 1 (Nat.le_refl _) (by unfold maxLen; omega) rfl
    exact this
  case round =>
    obtain ⟨k, hk, rfl, hown, hx⟩ := hrel
    have HO := Lib.hid hown
    clear hown
    by_cases hlt : k < l.length
    · obtain ⟨b, o, rfl, hb, hcell⟩ := HR.out k l[k] (List.getElem?_eq_getElem hlt)
      have hbd := HM.out l[k] (List.getElem_mem hlt)
      have htk := List.take_succ_eq_append_getElem hlt
      generalize l[k] = x at hcell hbd htk
      obtain ⟨x0, x1, _⟩ := hbd
      have HT := Lib.hid htk
      have c0 : wr.cell? ⟨b, o + k * 4, none⟩ = some (.int .i64 (x.depth)) := by rw [Ext.cell hx hb]; exact hcell 0 _ rfl
      have c1 : wr.cell? ⟨b, o + k * 4 + 1, none⟩ = some (.int .i64 (x.type)) := by rw [Ext.cell hx hb]; exact hcell 1 _ rfl
      have c2 : wr.cell? ⟨b, o + k * 4 + 2, none⟩ = some (.bool (x.nested)) := by rw [Ext.cell hx hb]; exact hcell 2 _ rfl
      have c3 : wr.cell? ⟨b, o + k * 4 + 3, none⟩ = some (.string (x.data)) := by rw [Ext.cell hx hb]; exact hcell 3 _ rfl
      have HLN := Lib.hid (show (wrapL kind (l.take k)).length ≤ 10000000 by rw [wrapL_len]; simp; omega)
      clear hcell htk
      go_wp2_with (at_builtin; refine app_att2 (Own.ext HO.out ((Ext.refl _).alloc _)) HLN.out (hx.alloc _) rfl rfl rfl rfl (by simp) ?_; intro v1 w2 hown1 hx2)
      have HO1 := Lib.hid hown1
      clear hown1
      go_wp2
      go_roundw
      case rel => exact ⟨k + 1, by omega, by go_num, by rw [HT.out, wrapL_snoc]; exact HO1.out, hx2⟩
      case measure => simp [intOf]; omega
    · obtain rfl : k = l.length := by omega
      go_wp2
      go_ret
      exact ⟨_, rfl, by have := HO.out; rwa [List.take_length] at this, hx⟩
theorem spec_WrapAttrs_any (kind : Int) (v : Value) (l : List Att) (w : World) (h : RdA w v l) (hl : l.length ≤ 1048576) :
    Calls Try.prog 34 #[.int .i64 kind, v] w fun e w' => ∃ u, e = .returned (.tuple #[u, .bool (wrB kind l)]) ∧ Own w' w.heap.size 62 4 Att.cells u (wrV kind l) ∧ Ext w w' := by
  have H := Lib.hid h
  clear h
  by_cases hg : goodB l = true
  · have hl4 := (good_get hg).1
    have HG := Lib.hid hg
    clear hg
    by_cases hw : goodB (wrapL kind l) = true
    · have HB := Lib.hid (show wrB kind l = true by simp [wrB, HG.out, hw])
      have HV := Lib.hid (show wrV kind l = wrapL kind l by simp [wrV, HB.out])
      go_enter Try.func34, Try.ntmps34
      go_wp2_with fail
      refine (spec_tvGood_any _ l _ H.out hl).mono ?_
      rintro e w1 ⟨rfl, E1⟩
      rw [HG.out]
      go_wp2_with fail
      refine (spec_tvWrap_any kind _ l _ (H.out.ext E1) HG.out).mono ?_
      rintro e w2 ⟨u2, rfl, O2, F2⟩
      have E2 := E1.trans F2
      have R2 := Lib.hid (Own.rd O2 Att.len)
      clear O2
      go_wp2_with fail
      refine (spec_tvGood_any _ (wrapL kind l) _ R2.out (by rw [wrapL_len]; omega)).mono ?_
      rintro e w3 ⟨rfl, F3⟩
      have E3 := E2.trans F3
      rw [hw]
      go_wp2_with fail
      refine (spec_tvWrap_any kind _ l _ (H.out.ext E3) HG.out).mono ?_
      rintro e w4 ⟨u4, rfl, O4, F4⟩
      have HO := Lib.hid O4
      clear O4
      go_wp2
      go_ret2
      exact ⟨_, by rw [HB.out]; rfl, by rw [HV.out]; exact Own.mono HO.out (Ext.size E3), E3.trans F4⟩
    · replace hw : goodB (wrapL kind l) = false := by simpa using hw
      have HB := Lib.hid (show wrB kind l = false by simp [wrB, hw])
      have HV := Lib.hid (show wrV kind l = [] by simp [wrV, HB.out])
      go_enter Try.func34, Try.ntmps34
      go_wp2_with fail
      refine (spec_tvGood_any _ l _ H.out hl).mono ?_
      rintro e w1 ⟨rfl, E1⟩
      rw [HG.out]
      go_wp2_with fail
      refine (spec_tvWrap_any kind _ l _ (H.out.ext E1) HG.out).mono ?_
      rintro e w2 ⟨u2, rfl, O2, F2⟩
      have E2 := E1.trans F2
      have R2 := Lib.hid (Own.rd O2 Att.len)
      clear O2
      go_wp2_with fail
      refine (spec_tvGood_any _ (wrapL kind l) _ R2.out (by rw [wrapL_len]; omega)).mono ?_
      rintro e w3 ⟨rfl, F3⟩
      have E3 := E2.trans F3
      rw [hw]
      go_wp2
      go_ret2
      exact ⟨_, by rw [HB.out]; rfl, by rw [HV.out]; exact World.ownsRow_nil _ _ _ _, E3⟩
  · replace hg : goodB l = false := by simpa using hg
    have HB := Lib.hid (show wrB kind l = false by simp [wrB, hg])
    have HV := Lib.hid (show wrV kind l = [] by simp [wrV, HB.out])
    go_enter Try.func34, Try.ntmps34
    go_wp2_with fail
    refine (spec_tvGood_any _ l _ H.out hl).mono ?_
    rintro e w1 ⟨rfl, E1⟩
    rw [hg]
    go_wp2
    go_ret2
    exact ⟨_, by rw [HB.out]; rfl, by rw [HV.out]; exact World.ownsRow_nil _ _ _ _, E1⟩

theorem impl_WrapAttrs_any (kind : Int) (v : Value) (l : List Att) (w : World) (h : RdA w v l) (hl : l.length ≤ 1048576) :
    Calls Try.prog 35 #[.int .i64 kind, v] w fun e w' => ∃ u, e = .returned (.tuple #[u, .bool (wrB kind l)]) ∧ Own w' w.heap.size 62 4 Att.cells u (wrV kind l) ∧ Ext w w' := by
  have H := Lib.hid h
  obtain ⟨A, c, rfl, hc, hrd⟩ := h
  have HR := Lib.hid hrd
  clear hrd
  by_cases hg : goodB l = true
  · have hl4 := (good_get hg).1
    have HM := Lib.hid (good_get hg).2.2.2
    have HG := Lib.hid hg
    clear hg
    go_enter Try.func35, Try.ntmps35
    go_wp2_with fail
    refine (impl_AreAttrs_any _ l _ H.out hl).mono ?_
    rintro e w1 ⟨rfl, E1⟩
    rw [HG.out]
    go_wp2
    go_loopw [17, 6] (fun t s wr => ∃ k : Nat, k ≤ l.length ∧ t = .int .i64 (k : Int) ∧ Own wr w.heap.size 62 4 Att.cells s (wrapL kind (l.take k)) ∧ Ext w wr) (fun t _ _ => l.length - (intOf t).toNat)
    case atStart =>
      refine ⟨0, Nat.zero_le _, rfl, ?_, E1.alloc _⟩
      have := World.ownsRow_lit (base := w.heap.size) (e := 62) (size := 4) w1 #[.int .i64 1, .int .i64 kind, .bool true, .string ⟨#[]⟩] 1 (Ext.size E1) (by unfold maxLen; omega) rfl
      exact this
    case round =>
      obtain ⟨k, hk, rfl, hown, hx⟩ := hrel
      have HO := Lib.hid hown
      clear hown
      by_cases hlt : k < l.length
      · obtain ⟨b, o, rfl, hb, hcell⟩ := HR.out k l[k] (List.getElem?_eq_getElem hlt)
        have hbd := HM.out l[k] (List.getElem_mem hlt)
        have htk := List.take_succ_eq_append_getElem hlt
        generalize l[k] = x at hcell hbd htk
        obtain ⟨x0, x1, _⟩ := hbd
        have HT := Lib.hid htk
        have c0 : wr.cell? ⟨b, o + k * 4, none⟩ = some (.int .i64 (x.depth)) := by rw [Ext.cell hx hb]; exact hcell 0 _ rfl
        have c1 : wr.cell? ⟨b, o + k * 4 + 1, none⟩ = some (.int .i64 (x.type)) := by rw [Ext.cell hx hb]; exact hcell 1 _ rfl
        have c2 : wr.cell? ⟨b, o + k * 4 + 2, none⟩ = some (.bool (x.nested)) := by rw [Ext.cell hx hb]; exact hcell 2 _ rfl
        have c3 : wr.cell? ⟨b, o + k * 4 + 3, none⟩ = some (.string (x.data)) := by rw [Ext.cell hx hb]; exact hcell 3 _ rfl
        have HLN := Lib.hid (show (wrapL kind (l.take k)).length ≤ 10000000 by rw [wrapL_len]; simp; omega)
        clear hcell htk
        go_wp2_with (at_builtin; refine app_att2 (Own.ext HO.out ((Ext.refl _).alloc _)) HLN.out (hx.alloc _) rfl rfl rfl rfl (by simp) ?_; intro v1 w2 hown1 hx2)
        have HO1 := Lib.hid hown1
        clear hown1
        go_wp2
        go_roundw
        case rel => exact ⟨k + 1, by omega, by go_num, by rw [HT.out, wrapL_snoc]; exact HO1.out, hx2⟩
        case measure => simp [intOf]; omega
      · obtain rfl : k = l.length := by omega
        have R2 := Lib.hid (show RdA wr _ (wrapL kind l) by have := Own.rd HO.out Att.len; rwa [List.take_length] at this)
        go_wp2_with fail
        refine (impl_AreAttrs_any _ (wrapL kind l) _ R2.out (by rw [wrapL_len]; omega)).mono ?_
        rintro e w3 ⟨rfl, F3⟩
        have E3 := hx.trans F3
        by_cases hw : goodB (wrapL kind l) = true
        · have HB := Lib.hid (show wrB kind l = true by simp [wrB, HG.out, hw])
          have HV := Lib.hid (show wrV kind l = wrapL kind l by simp [wrV, HB.out])
          rw [hw]
          go_wp2
          go_ret2
          exact ⟨_, by rw [HB.out]; rfl, by rw [HV.out]; have := HO.out; rw [List.take_length] at this; exact Own.ext this F3, E3⟩
        · replace hw : goodB (wrapL kind l) = false := by simpa using hw
          have HB := Lib.hid (show wrB kind l = false by simp [wrB, hw])
          have HV := Lib.hid (show wrV kind l = [] by simp [wrV, HB.out])
          rw [hw]
          go_wp2
          go_ret2
          exact ⟨_, by rw [HB.out]; rfl, by rw [HV.out]; exact World.ownsRow_nil _ _ _ _, E3⟩
  · replace hg : goodB l = false := by simpa using hg
    have HB := Lib.hid (show wrB kind l = false by simp [wrB, hg])
    have HV := Lib.hid (show wrV kind l = [] by simp [wrV, HB.out])
    go_enter Try.func35, Try.ntmps35
    go_wp2_with fail
    refine (impl_AreAttrs_any _ l _ H.out hl).mono ?_
    rintro e w1 ⟨rfl, E1⟩
    rw [hg]
    go_wp2
    go_ret2
    exact ⟨_, by rw [HB.out]; rfl, by rw [HV.out]; exact World.ownsRow_nil _ _ _ _, E1⟩
end Go.Proofs.Ytifhjhgccknndaa
