/- Contracts: the binary form of attributes, the program's side. -/
import Derived.Test.YtifhjhgccknndaaDoorEncS
import Derived.Test.YtifhjhgccknndaaDoorAttR
import Derived.Test.YtifhjhgccknndaaDoorMem2
import Derived.Lib.AppendStr
import Derived.Lib.BufferWrite
import Derived.Laws.CopyOwn
import Derived.Deep.RegionLaw
namespace Go.Proofs.YtifhjhgccknndaaDoor
open Go.RowKit
set_option maxHeartbeats 2000000
set_option linter.unusedSimpArgs false
set_option linter.unusedVariables false

def ucell (b : UInt8) : List Value := [.int .u8 (b.toNat : Int)]
theorem ucell_len (b : UInt8) : (ucell b).length = 1 := rfl
theorem flat_ucell (l : List UInt8) : l.flatMap ucell = l.map fun b => Value.int .u8 (b.toNat : Int) := by
  induction l with
  | nil => rfl
  | cons x l ih => rw [List.flatMap_cons, ih]; rfl
theorem info_u8 : (Tryd.prog.info? 5).map (fun i => (i.zero, i.size, i.bytes)) = some (some (.int .u8 0), 1, 1) := by kernel_rfl
theorem size_u8 : (Tryd.prog.info? 5).map (·.size) = some 1 := by kernel_rfl
abbrev OwnB (w : World) (base : Nat) (v : Value) (l : List UInt8) : Prop := Own w base 5 1 ucell v l
theorem app_str {ops : Array Oper} {rest : List Oper} {o : Oper} {a : Act} {Q : Exit → Act → World → Prop} {w wr : World} {v : Value} {xs : List UInt8} {t : ByteArray} {s x : Operand} (hown : OwnB wr w.heap.size v xs) (hn : xs.length + t.size ≤ 100000000) (hE : Ext w wr)
    (hgd : o.guard = none) (ho : o.op = .call { callee := .builtin .append, args := #[s, x], argTypes := #[79, 9] })
    (hs : a.eval s = v) (hx : a.eval x = .string t)
    (h : ∀ v' w', OwnB w' w.heap.size v' (xs ++ t.data.toList) → Ext w w' → wpList Tryd.prog ops Q rest (a.put o.dst v') w') : wpList Tryd.prog ops Q (o :: rest) a wr := by
  obtain ⟨i0, ii0, ii1, ii2, ii3⟩ := info_parts info_u8
  refine Lib.wpList_append_own_string _ hgd s x 79 9 ho w.heap.size 5 i0 Tryd.underlying79 Tryd.underlying9 ii0 ii1 ii2 ii3 v xs.length (xs.flatMap ucell) hs hown t hx (by unfold maxLen; omega) (by omega) (Ext.size hE) ?_
  intro v' w' h1 h2 _
  refine h v' w' ?_ (Ext.grown hE h2 (fun g hg => (World.ownsRow.lt hown g hg).1))
  unfold OwnB Own
  rw [List.flatMap_append, List.length_append, size_data, flat_ucell t.data.toList]
  exact h1
theorem app_zero {ops : Array Oper} {rest : List Oper} {o : Oper} {a : Act} {Q : Exit → Act → World → Prop} {w wr : World} {v : Value} {xs : List UInt8} {s x : Operand} (hown : OwnB wr w.heap.size v xs) (hn : xs.length ≤ 10000000) (hE : Ext w wr)
    (hgd : o.guard = none) (ho : o.op = .call { callee := .builtin .append, args := #[s, x], argTypes := #[79, 79] })
    (hs : a.eval s = v) (hx : a.eval x = .slice (some ⟨wr.heap.size, 0, none⟩) 1 1)
    (h : ∀ v' w', OwnB w' w.heap.size v' (xs ++ [0]) → Ext w w' → wpList Tryd.prog ops Q rest (a.put o.dst v') w') : wpList Tryd.prog ops Q (o :: rest) a (wr.alloc (.cells #[.int .u8 0] 5)) := by
  obtain ⟨i0, ii0, ii1, ii2, ii3⟩ := info_parts info_u8
  exact own_app1 Tryd.underlying79 ii0 ii1 ii2 ii3 rfl (by omega) (by omega) ucell_len (fun x u hu => by simp [ucell] at hu; subst hu; rfl) w wr hgd s x ho v xs 0 [.int .u8 0] rfl hs hx hown hn hE h
theorem conv_bytes {w : World} {base : Nat} {v : Value} {xs : List UInt8} (h : OwnB w base v xs) : (convert 79 9 v).run Tryd.prog w = .ok (.string (strU xs)) w := by
  rw [← strU_nums]
  refine conv_own Tryd.underlying79 Tryd.underlying5 Tryd.underlying9 (base := base) ?_
  unfold Own
  rw [flat_bcell, List.length_map, List.map_map]
  have := h
  unfold OwnB Own at this
  rw [flat_ucell] at this
  exact this

theorem own_form {α : Type} {w : World} {base : Nat} {e : TypeId} {k : Nat} {cells : α → List Value} {v : Value} {l : List α} {n : Nat} (h : Own w base e k cells v l) (hn : l.length = n) (h0 : 0 < n) : ∃ g cap, v = .slice (some ⟨g, 0, none⟩) n cap ∧ n ≤ cap ∧ cap ≤ 9223372036854775807 := by
  rcases h.2 with ⟨_, h2⟩ | ⟨g, cap, cur, h2, _, _, hnc, hcm, _⟩
  · omega
  · subst hn
    exact ⟨g, cap, h2, hnc, by unfold maxLen at hcm; omega⟩
theorem impl_littleBytes_w (a : Int) (w : World) (h : 0 ≤ a) (h2 : a < 65536) :
    Calls Tryd.prog 56 #[.int .i64 a] w fun e w' => e = .returned (.string (strU (wd a))) ∧ Ext w w' := by
  have := impl_littleBytes_any a w h (by omega)
  rwa [strU_wd] at this

/-- 'copy' of a string over bytes of a row of the call's own, as one step of a region that draws. -/
theorem step_patch {ops : Array Oper} {o : Oper} {a : Act} {w w0 : World} {K : Act → World → Prop} {Q : Exit → Act → World → Prop} {E : Prop}
    (hg : o.guard = none) (d x : Operand) (hop : o.op = Op.call { callee := Callee.builtin Builtin.copy, args := #[d, x], argTypes := #[79, 9] })
    {g cap n dLen dCap : Nat} (pre two rest : List UInt8) (hown : OwnB w w0.heap.size (.slice (some ⟨g, 0, none⟩) n cap) (pre ++ two ++ rest)) (hE : Ext w0 w)
    (hd : a.eval d = .slice (some ⟨g, pre.length, none⟩) dLen dCap) (t : ByteArray) (hx : a.eval x = .string t) (ht : t.size = two.length) (hle : t.size ≤ dLen)
    (hK : ∀ w', OwnB w' w0.heap.size (.slice (some ⟨g, 0, none⟩) n cap) (pre ++ t.data.toList ++ rest) → Ext w0 w' → K (a.put o.dst (goInt t.size)) w') :
    if Region.wanted o (yielded ops a.tmps) = true then Oper.wp Tryd.prog o a w K Q else E := by
  have hw : Region.wanted o (yielded ops a.tmps) = true := by simp [Region.wanted, hg]
  rw [if_pos hw]
  rcases hown.2 with ⟨h2, _⟩ | ⟨g', cap', cur, hv, hb, hh, hnc, hcm, hcs, hcur⟩
  · cases h2
  injection hv with h3 h4 h5
  cases h3
  subst h4 h5
  have hfl : t.data.toList.length = t.size := size_data t
  have hall : (pre ++ two ++ rest).length = pre.length + two.length + rest.length := by simp; omega
  rw [Nat.mul_one] at hcs
  have hfit : pre.length + t.size ≤ cur.size := by rw [ht, hcs]; omega
  have hrun := Lib.run_copy_row_string (P := Tryd.prog) w 79 9 o.type 5 g pre.length dLen dCap t cur 5 Tryd.underlying79 size_u8 hh hle hfit
  unfold Oper.wp
  simp only [execOp, hop, resolve, invoke, builtin, Sem.run_bind, Sem.run_pure, Result.andThen_ok, List.map_toArray, List.map_cons, List.map_nil, hd, hx, hrun]
  refine hK _ ?_ (below_setRow hE hb _)
  have e1 : (pre ++ t.data.toList ++ rest).length = (pre ++ two ++ rest).length := by simp [size_data, ht]
  rw [← e1]
  refine Own.of_blk (setRow_heap w g cur _ _ _ hh) hb (by rw [e1]; exact hnc) hcm ?_ ?_ ucell_len
  · simp [Lib.byteCells, size_data]
    omega
  · rw [Nat.mul_one, flat_ucell]
    rw [Nat.mul_one, flat_ucell] at hcur
    have hp : cur.toList.take pre.length = pre.map fun b => Value.int .u8 (b.toNat : Int) := by
      have := congrArg (List.take pre.length) hcur
      rw [List.take_take, Nat.min_eq_left (by omega), List.append_assoc, List.map_append, List.take_left' (by simp)] at this
      exact this
    have hr : (cur.toList.drop (pre.length + t.size)).take rest.length = rest.map fun b => Value.int .u8 (b.toNat : Int) := by
      have := congrArg (List.drop (pre.length + t.size)) hcur
      rw [List.drop_take, List.map_append, List.drop_left' (by simp [ht])] at this
      rw [← this]
      congr 1
      omega
    have e3 : ((pre ++ t.data.toList).map fun b => Value.int .u8 (b.toNat : Int)).length = pre.length + t.size := by simp [size_data]
    rw [List.toList_toArray, hp, show Lib.byteCells t.data.toList = t.data.toList.map (fun b => Value.int .u8 (b.toNat : Int)) from rfl, ← List.map_append, List.take_append, e3, List.take_of_length_le (by rw [e3]; simp [size_data]), show (pre ++ t.data.toList ++ rest).length - (pre.length + t.size) = rest.length by simp [size_data]; omega, hr, ← List.map_append]

def slLen (v : Value) : Nat := match v with
  | .slice _ n _ => n
  | _ => 0
theorem own_slLen {α : Type} {w : World} {base : Nat} {e : TypeId} {k : Nat} {cells : α → List Value} {v : Value} {l : List α} (h : Own w base e k cells v l) : slLen v = l.length := by
  rcases h.2 with ⟨h1, h2⟩ | ⟨g, cap, cur, h2, _⟩
  · rw [h1, h2]; rfl
  · rw [h2]; rfl
theorem frame_done (pre body : List UInt8) (K : Int) (nT j : Nat) (hn : nT = pre.length + 4 + body.length) (hj : 4 + body.length + j = pad4 (4 + body.length)) :
    pre ++ (strU (wd ((nT : Int) - (pre.length : Int)))).data.toList ++ (wd K ++ body) ++ List.replicate j 0 = pre ++ frm K body := by
  have e : (nT : Int) - (pre.length : Int) = ((4 + body.length : Nat) : Int) := by omega
  rw [e]
  unfold frm
  rw [← pad_done (wd ((4 + body.length : Nat) : Int) ++ wd K ++ body) j (pad4 (4 + body.length)) (by simp [wd_len]; omega)]
  simp [strU]
theorem enc_range (lv : Value) (l : List Att) (w0 : World) (h : RdA w0 lv l) (hg : goodB l = true) (hz : preSz l l.length ≤ 6000) : ∀ (N a b : Nat) (v : Value) (xs : List UInt8) (w : World), b - a ≤ N → a ≤ b → b ≤ l.length → closed l a b → OwnB w w0.heap.size v xs → xs.length % 4 = 0 → xs.length ≤ 20000 * (1 + a) → Ext w0 w →
    Calls Tryd.prog 59 #[v, lv, .int .i64 (a : Int), .int .i64 (b : Int)] w fun e w' => ∃ u, e = .returned u ∧ OwnB w' w0.heap.size u (xs ++ enc l a b) ∧ Ext w0 w' := by
  have hl := (good_get hg).1
  have H := Lib.hid h
  have HG := Lib.hid hg
  have HZ := Lib.hid hz
  obtain ⟨LA, lc, rfl, hlc, hrd⟩ := h
  have HR := Lib.hid hrd
  clear hg hz hrd
  intro N
  induction N with
  | zero =>
    intro a b v xs w hN hab hbl hcl hown hx4 hxb hE
    obtain rfl : a = b := by omega
    have HO := Lib.hid hown
    clear hown
    go_enter Tryd.func59, Tryd.ntmps59
    go_wp2
    refine wp_loop_rounds 1 ?_
    rw [rounds_succ]
    go_wp2
    go_ret
    exact ⟨v, rfl, by rw [enc_none l a a (Nat.le_refl _), List.append_nil]; exact HO.out, hE⟩
  | succ N ih =>
    intro a b v xs w hN hab hbl hcl hown hx4 hxb hE
    have IH := Lib.hid ih
    have HO := Lib.hid hown
    have HCL := Lib.hid hcl
    clear ih hown hcl
    go_enter Tryd.func59, Tryd.ntmps59
    go_wp2
    go_loopw [9, 0] (fun t s wr => ∃ (k : Nat) (P : List UInt8), a ≤ k ∧ k ≤ b ∧ t = .int .i64 (k : Int) ∧ OwnB wr w0.heap.size s (xs ++ P) ∧ Hid (enc l a b = P ++ enc l k b) ∧ Hid ((xs ++ P).length % 4 = 0 ∧ (xs ++ P).length ≤ 20000 * (1 + k)) ∧ Ext w0 wr) (fun t _ _ => b - (intOf t).toNat)
    case atStart => exact ⟨a, [], Nat.le_refl _, hab, rfl, by rw [List.append_nil]; exact HO.out, rfl, by rw [List.append_nil]; exact ⟨hx4, hxb⟩, hE⟩
    case round =>
      obtain ⟨k, P, hk0, hk1, rfl, hown, hP, hpl, hx⟩ := hrel
      obtain ⟨wo, rfl⟩ : ∃ wo : World, wo = wr := ⟨_, rfl⟩
      obtain ⟨pre, hpre⟩ : ∃ pre, pre = xs ++ P := ⟨_, rfl⟩
      rw [← hpre] at hown hpl
      have HPRE := Lib.hid hpre
      clear hpre
      obtain ⟨A1, c1, rfl, hc1, _⟩ := Own.rd hown ucell_len
      have HO1 := Lib.hid hown
      obtain ⟨p4, pb⟩ := hpl.out
      clear hown hpl
      by_cases hlt : k < b
      · have hkl : k < l.length := by omega
        obtain ⟨he0, he1'⟩ := endN_lt l k hkl
        have he1 := HCL.out k hk0 hlt
        have HS := Lib.hid (enc_step l k b hkl he1)
        obtain ⟨bb, o, rfl, hb, hcell⟩ := HR.out k l[k] (List.getElem?_eq_getElem hkl)
        have d1 : wo.cell? ⟨bb, o + k * 4 + 1, none⟩ = some (.int .i64 l[k].type) := by rw [Ext.cell hx hb]; exact hcell 1 _ rfl
        have d2 : wo.cell? ⟨bb, o + k * 4 + 2, none⟩ = some (.bool l[k].nested) := by rw [Ext.cell hx hb]; exact hcell 2 _ rfl
        have hxm := (good_get HG.out).2.2.2 l[k] (List.getElem_mem hkl)
        have hle := enc_leaf HG.out k hkl
        have hne := enc_nested l k hkl
        have hci := closed_in l k hkl
        have hcell2 := hcell 2 _ rfl
        have hcell3 := hcell 3 _ rfl
        generalize l[k] = x at d1 d2 hxm hle hne hcell2 hcell3
        obtain ⟨_, _, t0, t1, s0, _⟩ := hxm
        have HCI := Lib.hid hci
        have HC2 := Lib.hid hcell2
        have HC3 := Lib.hid hcell3
        obtain ⟨b0, b1⟩ := enc_bd HG.out (k + 1) (endN l k) (by omega) he1' hci HZ.out
        clear hcell hci hcell2 hcell3
        cases hn : x.nested
        · rw [hn] at d2
          have HF := Lib.hid (hle hn)
          clear hle hne
          have HN := Lib.hid hn
          clear hn
          go_wp2_with fail
          refine (impl_littleBytes_w _ _ (by omega) (by omega)).mono ?_
          rintro e w1 ⟨rfl, F1⟩
          have E1 := hx.trans F1
          obtain ⟨q1, hq1⟩ : ∃ q, q = strU (wd x.type) := ⟨_, rfl⟩
          rw [← hq1]
          have hq1s : q1.size ≤ 2 := by rw [hq1, strU_size, wd_len]; omega
          have HQ1 := Lib.hid (show (⟨#[0, 0]⟩ ++ q1).data.toList = [0, 0] ++ wd x.type by rw [hq1]; simp [strU])
          have HQS := Lib.hid (show (⟨#[0, 0]⟩ ++ q1).size ≤ 4 by rw [ByteArray.size_append, show (⟨#[0, 0]⟩ : ByteArray).size = 2 from rfl]; omega)
          clear hq1
          clear d1 d2
          obtain ⟨body, hbody⟩ : ∃ body, body = x.data.data.toList := ⟨_, rfl⟩
          have hbs : body.length ≤ 1000 := by rw [hbody, size_data]; exact s0
          have HBD := Lib.hid hbody
          clear hbody
          obtain ⟨nT, hnT⟩ : ∃ n : Nat, n = pre.length + 4 + body.length := ⟨_, rfl⟩
          have hnT0 : nT ≤ pre.length + 4 + body.length := by omega
          have hnT1 : pre.length + 4 + body.length ≤ nT := by omega
          have HNT := Lib.hid (show (pre ++ [0, 0] ++ (wd x.type ++ body)).length = nT by rw [hnT]; simp [wd_len]; omega)
          clear hnT
          go_wp2_with (first | (at_builtin; refine app_str (Own.ext HO1.out F1) (by have := HQS.out; omega) E1 rfl rfl rfl rfl ?_; intro v2 w2 hown2 E2; have HO2 := Lib.hid (show OwnB w2 w0.heap.size v2 (pre ++ ([0, 0] ++ wd x.type)) by rw [← HQ1.out]; exact hown2); clear hown2; have d2 : w2.cell? ⟨bb, o + k * 4 + 2, none⟩ = some (.bool false) := (by rw [Ext.cell E2 hb, ← HN.out]; exact HC2.out); have d3 : w2.cell? ⟨bb, o + k * 4 + 3, none⟩ = some (.string x.data) := (by rw [Ext.cell E2 hb]; exact HC3.out)) | (at_builtin; refine app_str HO2.out (by simp [wd_len]; omega) E2 rfl rfl rfl rfl ?_; intro v3 w3 hown3 E3; rw [← HBD.out] at hown3; have HO3 := Lib.hid (show OwnB w3 w0.heap.size v3 (pre ++ [0, 0] ++ (wd x.type ++ body)) by simpa using hown3); obtain ⟨g, cap, rfl, hnc, hcm⟩ := own_form HO3.out HNT.out (by omega); clear hown3 d2 d3))
          have HFB := Lib.hid (show enc l k (endN l k) = frm x.type body by rw [HF.out, HBD.out])
          clear HF
          have E3d := E3.drew
          have hcg : pre.length < cap := by omega
          have hcq : pre.length ≤ nT := by omega
          have hcne : ¬ cap = pre.length := by omega
          have hci0 : (0 : Int) ≤ (pre.length : Int) := by omega
          have hci1 : (pre.length : Int) ≤ (nT : Int) := by omega
          have hci2 : (nT : Int) ≤ (cap : Int) := by omega
          have sw : IntKind.i64.wrap ((nT : Int) - (pre.length : Int)) = (nT : Int) - (pre.length : Int) := IntWalk.i64_in _ (by omega)
          go_wp2_with fail
          go_region_law (first | (go_simp; go_at_call 56; refine (impl_littleBytes_w _ _ (by omega) (by omega)).mono ?_; rintro e w4 ⟨rfl, F4⟩) | (refine step_patch (w0 := w0) rfl _ _ rfl pre [0, 0] (wd (x.type) ++ body) (Own.ext HO3.out ((Ext.refl _).drew.trans F4)) (E3d.trans F4) (by rfl) (strU (wd ((nT : Int) - (pre.length : Int)))) (by rfl) (by rfl) (by rw [strU_size, wd_len]; omega) ?_; intro w5 hown5 E5; have HO5 := Lib.hid hown5; clear hown5))
          clear sw hcne hci0 hci1 hci2 hcq
          obtain ⟨Y, hY⟩ : ∃ Y : List UInt8, Y = pre ++ (strU (wd ((nT : Int) - (pre.length : Int)))).data.toList ++ (wd (x.type) ++ body) := ⟨_, rfl⟩
          have HYE := Lib.hid hY
          have HYL := Lib.hid (show Y.length = nT by rw [hY]; simp [strU, wd_len]; omega)
          have HO6 := Lib.hid (show OwnB w5 w0.heap.size (.slice (some ⟨g, 0, none⟩) nT cap) (Y ++ List.replicate 0 0) by rw [List.replicate_zero, List.append_nil, hY]; exact HO5.out)
          clear hY HO5
          go_wp2
          go_loopw [0] (fun s wr => ∃ j : Nat, OwnB wr w0.heap.size s (Y ++ List.replicate j 0) ∧ nT + j ≤ pre.length + (4 + body.length + 3) / 4 * 4 ∧ Ext w0 wr) (fun s _ => pre.length + (4 + body.length + 3) / 4 * 4 - slLen s)
          case atStart => exact ⟨0, HO6.out, by omega, E5⟩
          case round =>
            obtain ⟨j, hownj, hj, hxj⟩ := hrel
            have hlj : (Y ++ List.replicate j 0).length = nT + j := by rw [List.length_append, HYL.out, List.length_replicate]
            obtain ⟨m, hm⟩ : ∃ m, m = nT + j := ⟨_, rfl⟩
            have hm0 : m ≤ nT + j := by omega
            have hm1 : nT + j ≤ m := by omega
            rw [← hm] at hlj
            obtain ⟨gj, cj, rfl, hcj0, hcj1⟩ := own_form hownj hlj (by omega)
            have HOJ := Lib.hid hownj
            have HLJ := Lib.hid hlj
            clear hownj hlj hm
            by_cases hr : m % 4 = 0
            · have hq : ((m : Int) % 4 != 0) = false := by simp; omega
              have HFD := Lib.hid (show Y ++ List.replicate j 0 = pre ++ frm (x.type) body by rw [HYE.out]; exact frame_done pre body (x.type) nT j (by omega) (by unfold pad4; omega))
              have HFL := frm_len (x.type) body
              unfold pad4 at HFL
              have HFL2 := Lib.hid HFL
              clear HFL
              have HR := Lib.hid hr
              clear hr
              go_wp2_with fail
              refine (impl_endOf_any _ l k _ (H.out.ext hxj) (by omega) hkl).mono ?_
              rintro e w7 ⟨rfl, F7⟩
              go_wp2
              go_roundw
              case rel =>
                have e1 : xs ++ (P ++ frm (x.type) body) = pre ++ frm (x.type) body := by rw [HPRE.out, List.append_assoc]
                refine ⟨endN l k, P ++ frm (x.type) body, by omega, he1, rfl, ?_, ?_, ?_, hxj.trans F7⟩
                · rw [e1, ← HFD.out]
                  exact Own.ext HOJ.out F7
                · show _ = _
                  rw [hP.out, HS.out, HFB.out, List.append_assoc]
                · rw [e1]
                  show (pre ++ frm (x.type) body).length % 4 = 0 ∧ _
                  rw [List.length_append, HFL2.out]
                  omega
              case measure => simp [intOf]; omega
            · have hq : ((m : Int) % 4 != 0) = true := by simp; omega
              have HR := Lib.hid hr
              clear hr
              go_wp2_with (at_builtin; refine app_zero HOJ.out (by rw [HLJ.out]; omega) hxj rfl rfl rfl rfl ?_; intro v6 w6 hown6 E6)
              have HO7 := Lib.hid (show OwnB w6 w0.heap.size v6 (Y ++ List.replicate (j + 1) 0) by rw [List.replicate_succ', ← List.append_assoc]; exact hown6)
              have HSL := Lib.hid (own_slLen hown6)
              clear hown6
              go_wp2
              go_roundw
              case rel => exact ⟨j + 1, HO7.out, by have := HR.out; omega, E6⟩
              case measure =>
                have h1 := HSL.out
                rw [List.length_append, HLJ.out, List.length_singleton] at h1
                have h2 : slLen (.slice (some ⟨gj, 0, none⟩) m cj) = m := rfl
                have := HR.out
                rw [h1, h2]
                omega
        · rw [hn] at d2
          have HF := Lib.hid (hne hn)
          clear hle hne
          have HN := Lib.hid hn
          clear hn
          go_wp2_with fail
          refine (impl_littleBytes_w _ _ (by omega) (by omega)).mono ?_
          rintro e w1 ⟨rfl, F1⟩
          have E1 := hx.trans F1
          obtain ⟨q1, hq1⟩ : ∃ q, q = strU (wd (x.type + 32768)) := ⟨_, rfl⟩
          rw [← hq1]
          have hq1s : q1.size ≤ 2 := by rw [hq1, strU_size, wd_len]; omega
          have HQ1 := Lib.hid (show (⟨#[0, 0]⟩ ++ q1).data.toList = [0, 0] ++ wd (x.type + 32768) by rw [hq1]; simp [strU])
          have HQS := Lib.hid (show (⟨#[0, 0]⟩ ++ q1).size ≤ 4 by rw [ByteArray.size_append, show (⟨#[0, 0]⟩ : ByteArray).size = 2 from rfl]; omega)
          clear hq1
          clear d1 d2
          go_wp2_with (at_builtin; refine app_str (Own.ext HO1.out F1) (by have := HQS.out; omega) E1 rfl rfl rfl rfl ?_; intro v2 w2 hown2 E2; have HO2 := Lib.hid (show OwnB w2 w0.heap.size v2 (pre ++ ([0, 0] ++ wd (x.type + 32768))) by rw [← HQ1.out]; exact hown2); clear hown2; have d2 : w2.cell? ⟨bb, o + k * 4 + 2, none⟩ = some (.bool true) := (by rw [Ext.cell E2 hb, ← HN.out]; exact HC2.out))
          refine (impl_endOf_any _ l k _ (H.out.ext E2) (by omega) hkl).mono ?_
          rintro e w2b ⟨rfl, F2b⟩
          have E2b := E2.trans F2b
          clear d2
          go_wp2_with fail
          rw [show ((k : Int) + 1) = ((k + 1 : Nat) : Int) by omega]
          refine (IH.out (k + 1) (endN l k) v2 (pre ++ ([0, 0] ++ wd (x.type + 32768))) _ (by omega) (by omega) he1' HCI.out (Own.ext HO2.out F2b) (by simp [wd_len]; omega) (by simp [wd_len]; omega) E2b).mono ?_
          rintro e w3 ⟨v3, rfl, hown3, E3⟩
          obtain ⟨body, hbody⟩ : ∃ body, body = enc l (k + 1) (endN l k) := ⟨_, rfl⟩
          have hbs : body.length ≤ 6000 := by rw [hbody]; exact b0
          have HFB := Lib.hid (show enc l k (endN l k) = frm (x.type + 32768) body by rw [HF.out, hbody])
          rw [← hbody] at hown3
          have HO3 := Lib.hid (show OwnB w3 w0.heap.size v3 (pre ++ [0, 0] ++ (wd (x.type + 32768) ++ body)) by simpa using hown3)
          clear hown3 hbody HF
          obtain ⟨nT, hnT⟩ : ∃ n : Nat, n = pre.length + 4 + body.length := ⟨_, rfl⟩
          have hnT0 : nT ≤ pre.length + 4 + body.length := by omega
          have hnT1 : pre.length + 4 + body.length ≤ nT := by omega
          have HNT := Lib.hid (show (pre ++ [0, 0] ++ (wd (x.type + 32768) ++ body)).length = nT by rw [hnT]; simp [wd_len]; omega)
          clear hnT
          obtain ⟨g, cap, rfl, hnc, hcm⟩ := own_form HO3.out HNT.out (by omega)
          have E3d := E3.drew
          have hcg : pre.length < cap := by omega
          have hcq : pre.length ≤ nT := by omega
          have hcne : ¬ cap = pre.length := by omega
          have hci0 : (0 : Int) ≤ (pre.length : Int) := by omega
          have hci1 : (pre.length : Int) ≤ (nT : Int) := by omega
          have hci2 : (nT : Int) ≤ (cap : Int) := by omega
          have sw : IntKind.i64.wrap ((nT : Int) - (pre.length : Int)) = (nT : Int) - (pre.length : Int) := IntWalk.i64_in _ (by omega)
          go_wp2_with fail
          go_region_law (first | (go_simp; go_at_call 56; refine (impl_littleBytes_w _ _ (by omega) (by omega)).mono ?_; rintro e w4 ⟨rfl, F4⟩) | (refine step_patch (w0 := w0) rfl _ _ rfl pre [0, 0] (wd (x.type + 32768) ++ body) (Own.ext HO3.out ((Ext.refl _).drew.trans F4)) (E3d.trans F4) (by rfl) (strU (wd ((nT : Int) - (pre.length : Int)))) (by rfl) (by rfl) (by rw [strU_size, wd_len]; omega) ?_; intro w5 hown5 E5; have HO5 := Lib.hid hown5; clear hown5))
          clear sw hcne hci0 hci1 hci2 hcq
          obtain ⟨Y, hY⟩ : ∃ Y : List UInt8, Y = pre ++ (strU (wd ((nT : Int) - (pre.length : Int)))).data.toList ++ (wd (x.type + 32768) ++ body) := ⟨_, rfl⟩
          have HYE := Lib.hid hY
          have HYL := Lib.hid (show Y.length = nT by rw [hY]; simp [strU, wd_len]; omega)
          have HO6 := Lib.hid (show OwnB w5 w0.heap.size (.slice (some ⟨g, 0, none⟩) nT cap) (Y ++ List.replicate 0 0) by rw [List.replicate_zero, List.append_nil, hY]; exact HO5.out)
          clear hY HO5
          go_wp2
          go_loopw [0] (fun s wr => ∃ j : Nat, OwnB wr w0.heap.size s (Y ++ List.replicate j 0) ∧ nT + j ≤ pre.length + (4 + body.length + 3) / 4 * 4 ∧ Ext w0 wr) (fun s _ => pre.length + (4 + body.length + 3) / 4 * 4 - slLen s)
          case atStart => exact ⟨0, HO6.out, by omega, E5⟩
          case round =>
            obtain ⟨j, hownj, hj, hxj⟩ := hrel
            have hlj : (Y ++ List.replicate j 0).length = nT + j := by rw [List.length_append, HYL.out, List.length_replicate]
            obtain ⟨m, hm⟩ : ∃ m, m = nT + j := ⟨_, rfl⟩
            have hm0 : m ≤ nT + j := by omega
            have hm1 : nT + j ≤ m := by omega
            rw [← hm] at hlj
            obtain ⟨gj, cj, rfl, hcj0, hcj1⟩ := own_form hownj hlj (by omega)
            have HOJ := Lib.hid hownj
            have HLJ := Lib.hid hlj
            clear hownj hlj hm
            by_cases hr : m % 4 = 0
            · have hq : ((m : Int) % 4 != 0) = false := by simp; omega
              have HFD := Lib.hid (show Y ++ List.replicate j 0 = pre ++ frm (x.type + 32768) body by rw [HYE.out]; exact frame_done pre body (x.type + 32768) nT j (by omega) (by unfold pad4; omega))
              have HFL := frm_len (x.type + 32768) body
              unfold pad4 at HFL
              have HFL2 := Lib.hid HFL
              clear HFL
              have HR := Lib.hid hr
              clear hr
              go_wp2_with fail
              refine (impl_endOf_any _ l k _ (H.out.ext hxj) (by omega) hkl).mono ?_
              rintro e w7 ⟨rfl, F7⟩
              go_wp2
              go_roundw
              case rel =>
                have e1 : xs ++ (P ++ frm (x.type + 32768) body) = pre ++ frm (x.type + 32768) body := by rw [HPRE.out, List.append_assoc]
                refine ⟨endN l k, P ++ frm (x.type + 32768) body, by omega, he1, rfl, ?_, ?_, ?_, hxj.trans F7⟩
                · rw [e1, ← HFD.out]
                  exact Own.ext HOJ.out F7
                · show _ = _
                  rw [hP.out, HS.out, HFB.out, List.append_assoc]
                · rw [e1]
                  show (pre ++ frm (x.type + 32768) body).length % 4 = 0 ∧ _
                  rw [List.length_append, HFL2.out]
                  omega
              case measure => simp [intOf]; omega
            · have hq : ((m : Int) % 4 != 0) = true := by simp; omega
              have HR := Lib.hid hr
              clear hr
              go_wp2_with (at_builtin; refine app_zero HOJ.out (by rw [HLJ.out]; omega) hxj rfl rfl rfl rfl ?_; intro v6 w6 hown6 E6)
              have HO7 := Lib.hid (show OwnB w6 w0.heap.size v6 (Y ++ List.replicate (j + 1) 0) by rw [List.replicate_succ', ← List.append_assoc]; exact hown6)
              have HSL := Lib.hid (own_slLen hown6)
              clear hown6
              go_wp2
              go_roundw
              case rel => exact ⟨j + 1, HO7.out, by have := HR.out; omega, E6⟩
              case measure =>
                have h1 := HSL.out
                rw [List.length_append, HLJ.out, List.length_singleton] at h1
                have h2 : slLen (.slice (some ⟨gj, 0, none⟩) m cj) = m := rfl
                have := HR.out
                rw [h1, h2]
                omega
      · obtain rfl : k = b := by omega
        go_wp2
        go_ret
        refine ⟨.slice A1 pre.length c1, rfl, ?_, hx⟩
        rw [hP.out, enc_none l k k (Nat.le_refl _), List.append_nil, ← HPRE.out]
        exact HO1.out

theorem impl_EncodeAttrs_any (v : Value) (l : List Att) (w : World) (h : RdA w v l) (hl : l.length ≤ 1048576) :
    Calls Tryd.prog 42 #[v] w fun e w' => e = .returned (.tuple #[.string (encV l), .bool (encB l)]) ∧ Ext w w' := by
  have H := Lib.hid h
  obtain ⟨A, c, rfl, hc, _⟩ := h
  by_cases hb : encB l = true
  · obtain ⟨hg, hz⟩ := encB_parts hb
    have HV := Lib.hid (show encV l = strU (enc l 0 l.length) by simp [encV, hb])
    have HG := Lib.hid hg
    have HZ := Lib.hid hz
    clear hg hz
    go_enter Tryd.func42, Tryd.ntmps42
    go_wp2_with fail
    refine (impl_encodable_any _ l _ H.out hl).mono ?_
    rintro e w1 ⟨rfl, F1⟩
    rw [hb]
    go_wp2_with fail
    refine (enc_range _ l w1 (H.out.ext F1) HG.out HZ.out l.length 0 l.length (.slice none 0 0) [] w1 (by omega) (by omega) (by omega) (closed_all l) (World.ownsRow_nil _ _ _ _) rfl (by simp) (Ext.refl _)).mono ?_
    rintro e w2 ⟨u, rfl, hown, E2⟩
    have hcv := conv_bytes hown
    clear hown
    go_wp2
    go_ret2
    exact ⟨by rw [HV.out, hb]; rfl, F1.trans E2⟩
  · replace hb : encB l = false := by simpa using hb
    have HV := Lib.hid (show encV l = ⟨#[]⟩ by simp [encV, hb])
    go_enter Tryd.func42, Tryd.ntmps42
    go_wp2_with fail
    refine (impl_encodable_any _ l _ H.out hl).mono ?_
    rintro e w1 ⟨rfl, F1⟩
    rw [hb]
    go_wp2
    go_ret2
    exact ⟨by rw [HV.out, hb]; rfl, F1⟩
end Go.Proofs.YtifhjhgccknndaaDoor
