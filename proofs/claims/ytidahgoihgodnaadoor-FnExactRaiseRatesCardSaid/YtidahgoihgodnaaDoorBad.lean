/- Contracts: classes without a parent. Printed by wip/tools/gen_bad.py. -/
import Derived.Test.YtidahgoihgodnaaDoorFind
import Derived.Test.YtidahgoihgodnaaDoorInts
namespace Go.Proofs.YtidahgoihgodnaaDoor
open Go.RowKit
set_option maxRecDepth 20000
set_option maxHeartbeats 1000000
set_option linter.unusedSimpArgs false
set_option linter.unusedVariables false

theorem app_intB {ops : Array Oper} {rest : List Oper} {o : Oper} {a : Act} {Q : Exit → Act → World → Prop} {w wr : World} {bs : Nat} {v : Value} {l : List Int} {y : Int} {s x : Operand} (hbs : w.heap.size = bs) (hown : OwnI wr bs 3 v l) (hn : l.length ≤ 10000000) (hE : Ext w wr)
    (hgd : o.guard = none) (ho : o.op = .call { callee := .builtin .append, args := #[s, x], argTypes := #[58, 58] })
    (hs : a.eval s = v) (hx : a.eval x = .slice (some ⟨wr.heap.size, 0, none⟩) 1 1)
    (h : ∀ v' w', OwnI w' bs 3 v' (l ++ [y]) → Ext w w' → wpList Tryd.prog ops Q rest (a.put o.dst v') w') : wpList Tryd.prog ops Q (o :: rest) a (wr.alloc (.cells #[.int .i64 y] 3)) := by
  subst hbs
  exact app_int hown hn hE hgd ho hs hx h
/-- The configuration is small enough to be looked at. -/
def smallCf (cs : List Cls) (fs : List Flt) : Bool := decide (cs.length ≤ 40) && decide (fs.length ≤ 40)
def bpP (cs : List Cls) (k : Nat) : Bool := clsAt cs k (fun x => x.parent != 0 && decide (findI cs x.parent < 0))
def badP (cs : List Cls) : List Int := pick (bpP cs) cs.length

theorem impl_isRaw_any (n : ByteArray) (cv fv : Value) (d : Int) (cs : List Cls) (fs : List Flt) (w : World) (hc : RdC w cv cs) (hf : RdF w fv fs) (hcl : cs.length ≤ 1048576) (hfl : fs.length ≤ 1048576) :
    Calls Tryd.prog 44 #[cfgV n cv fv d] w fun e w' => e = .returned (.bool (smallCf cs fs)) ∧ Ext w w' := by
  obtain ⟨CA, cc, rfl, hcc, _⟩ := hc
  obtain ⟨FA, fc, rfl, hfc, _⟩ := hf
  by_cases h1 : cs.length ≤ 40
  all_goals
    go_enter Tryd.func44, Tryd.ntmps44
    go_wp2
    go_ret
    refine ⟨?_, (Ext.refl _).alloc _⟩
    simp [smallCf, h1]
    try omega
theorem spec_vaAsked_any (n : ByteArray) (cv fv : Value) (d : Int) (cs : List Cls) (fs : List Flt) (w : World) (hc : RdC w cv cs) (hf : RdF w fv fs) (hcl : cs.length ≤ 1048576) (hfl : fs.length ≤ 1048576) :
    Calls Tryd.prog 39 #[cfgV n cv fv d] w fun e w' => e = .returned (.bool (smallCf cs fs)) ∧ Ext w w' := by
  obtain ⟨CA, cc, rfl, hcc, _⟩ := hc
  obtain ⟨FA, fc, rfl, hfc, _⟩ := hf
  by_cases h1 : cs.length ≤ 40
  all_goals
    go_enter Tryd.func39, Tryd.ntmps39
    go_wp2
    go_ret
    refine ⟨?_, (Ext.refl _).alloc _⟩
    simp [smallCf, h1]
    try omega
theorem impl_badParents_any (n : ByteArray) (cv fv : Value) (d : Int) (cs : List Cls) (w : World) (hc : RdC w cv cs) (hcl : cs.length ≤ 1048576) :
    Calls Tryd.prog 85 #[cfgV n cv fv d] w fun e w' => ∃ u, e = .returned u ∧ OwnI w' w.heap.size 3 u (badP cs) ∧ Ext w w' := by
  have HC := Lib.hid hc
  obtain ⟨CA, cc, rfl, hcc, hrc⟩ := hc
  have HR := Lib.hid hrc
  clear hrc
  have D0 := (Ext.refl (w.alloc (.cells #[.string n, .slice CA cs.length cc, fv, .int .i64 d] 30))).alloc (.cells #[] 3)
  have HST := Lib.hid (show OwnI ((w.alloc (.cells #[.string n, .slice CA cs.length cc, fv, .int .i64 d] 30)).alloc (.cells #[] 3)) (w.heap.size + 1) 3 (.slice (some ⟨w.heap.size + 1, 0, none⟩) 0 0) [] by
    have := World.ownsRow_lit (base := w.heap.size + 1) (e := 3) (size := 1) (w.alloc (.cells #[.string n, .slice CA cs.length cc, fv, .int .i64 d] 30)) #[] 0 (by simp) (by unfold maxLen; omega) rfl
    unfold OwnI Own
    simpa using this)
  go_enter Tryd.func85, Tryd.ntmps85
  go_wp2
  go_loopw [10, 3] (fun t s wr => ∃ k : Nat, k ≤ cs.length ∧ t = .int .i64 (k : Int) ∧ OwnI wr (w.heap.size + 1) 3 s (pick (bpP cs) k) ∧ Ext (w.alloc (.cells #[.string n, .slice CA cs.length cc, fv, .int .i64 d] 30)) wr) (fun t _ _ => cs.length - (intOf t).toNat)
  case atStart => exact ⟨0, Nat.zero_le _, rfl, HST.out, by assumption⟩
  case round =>
    obtain ⟨k, hk, rfl, hown, hx⟩ := hrel
    have HO := Lib.hid hown
    have hxw := Ext.trans ((Ext.refl w).alloc (.cells #[.string n, .slice CA cs.length cc, fv, .int .i64 d] 30)) hx
    have BX := Lib.hid ((Box.new w n (.slice CA cs.length cc) fv d 30).ext hx)
    clear hown
    by_cases hlt : k < cs.length
    · have hpk : pick (bpP cs) (k + 1) = pick (bpP cs) k ++ (if bpP cs k then [(k : Int)] else []) := rfl
      have hbp : bpP cs k = (cs[k].parent != 0 && decide (findI cs cs[k].parent < 0)) := clsAt_is cs k _ hlt
      have HLN := Lib.hid (show (pick (bpP cs) k).length ≤ 10000000 by have := pick_len (bpP cs) k; omega)
      obtain ⟨b, o, hCA, hb, hcell⟩ := HR.out k cs[k] (List.getElem?_eq_getElem hlt)
      generalize cs[k] = x at hcell hbp
      subst hCA
      have c0 : wr.cell? ⟨b, o + k * 8, none⟩ = some (.int .i64 x.id) := by rw [Ext.cell hxw hb]; exact hcell 0 _ rfl
      have c1 : wr.cell? ⟨b, o + k * 8 + 1, none⟩ = some (.int .i64 x.parent) := by rw [Ext.cell hxw hb]; exact hcell 1 _ rfl
      have c2 : wr.cell? ⟨b, o + k * 8 + 2, none⟩ = some (.int .i64 x.rate) := by rw [Ext.cell hxw hb]; exact hcell 2 _ rfl
      have c3 : wr.cell? ⟨b, o + k * 8 + 3, none⟩ = some (.int .i64 x.ceil) := by rw [Ext.cell hxw hb]; exact hcell 3 _ rfl
      have c4 : wr.cell? ⟨b, o + k * 8 + 4, none⟩ = some (.int .i64 x.burst) := by rw [Ext.cell hxw hb]; exact hcell 4 _ rfl
      have c5 : wr.cell? ⟨b, o + k * 8 + 5, none⟩ = some (.int .i64 x.cburst) := by rw [Ext.cell hxw hb]; exact hcell 5 _ rfl
      have c6 : wr.cell? ⟨b, o + k * 8 + 6, none⟩ = some (.int .i64 x.prio) := by rw [Ext.cell hxw hb]; exact hcell 6 _ rfl
      have c7 : wr.cell? ⟨b, o + k * 8 + 7, none⟩ = some (.int .i64 x.limit) := by rw [Ext.cell hxw hb]; exact hcell 7 _ rfl
      have HPK := Lib.hid hpk
      have HBP := Lib.hid hbp
      clear hcell hpk hbp
      obtain ⟨q0, q1, q2, q3, q4⟩ := BX.out
      by_cases hp0 : x.parent = 0
      · have h0 : (x.parent != 0) = false := by simp [hp0]
        have HF := Lib.hid (show bpP cs k = false by rw [HBP.out, h0]; rfl)
        have HP0 := Lib.hid hp0
        clear hp0
        go_wp2
        go_roundw
        case rel => exact ⟨k + 1, by omega, by go_num, by rw [HPK.out, HF.out]; simp only [Bool.false_eq_true, if_false, List.append_nil]; exact Own.ext HO.out ((Ext.refl _).alloc _), hx.alloc _⟩
        case measure => simp [intOf]; omega
      · have h0 : (x.parent != 0) = true := by simp [hp0]
        have HP0 := Lib.hid hp0
        clear hp0
        go_wp2_with fail
        refine (impl_indexOf_any n _ fv d x.parent cs _ (HC.out.ext (hxw.alloc _)) (by omega)).mono ?_
        rintro e w1 ⟨rfl, F1⟩
        have D1 := (hx.alloc _).trans F1
        have G1 := ((Ext.refl wr).alloc _).trans F1
        clear c0 c1 c2 c3 c4 c5 c6 c7 q0 q1 q2 q3 q4
        by_cases hneg : findI cs x.parent < 0
        · have HT := Lib.hid (show bpP cs k = true by rw [HBP.out, h0]; simp [hneg])
          go_wp2_with (at_builtin; refine app_intB (by simp) (Own.ext HO.out G1) HLN.out D1 rfl rfl rfl rfl ?_; intro v2 w2 hown2 D2)
          have HO2 := Lib.hid hown2
          clear hown2
          go_wp2
          go_roundw
          case rel => exact ⟨k + 1, by omega, by go_num, by rw [HPK.out, HT.out]; exact HO2.out, D2⟩
          case measure => simp [intOf]; omega
        · have HF := Lib.hid (show bpP cs k = false by rw [HBP.out, h0]; simp; omega)
          go_wp2
          go_roundw
          case rel => exact ⟨k + 1, by omega, by go_num, by rw [HPK.out, HF.out]; simp only [Bool.false_eq_true, if_false, List.append_nil]; exact Own.ext HO.out G1, D1⟩
          case measure => simp [intOf]; omega
    · obtain rfl : k = cs.length := by omega
      go_wp2
      go_ret
      exact ⟨_, rfl, Own.mono HO.out (by omega), hxw⟩
def badPV (n : ByteArray) (cs : List Cls) (fs : List Flt) (d : Int) : List Int := if smallCf cs fs then badP cs else []
theorem badPV_len (n : ByteArray) (cs : List Cls) (fs : List Flt) (d : Int) : (badPV n cs fs d).length ≤ 2000000 := by
  unfold badPV
  split
  · rename_i h
    simp only [smallCf, Bool.and_eq_true, decide_eq_true_eq] at h
    have := pick_len (bpP cs) cs.length
    unfold badP
    omega
  · simp

end Go.Proofs.YtidahgoihgodnaaDoor
