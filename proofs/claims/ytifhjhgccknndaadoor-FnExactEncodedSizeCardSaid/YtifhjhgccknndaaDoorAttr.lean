/- Contracts of functions on attributes: valid. -/
import Derived.Test.YtifhjhgccknndaaDoorNum
import Derived.Test.YtifhjhgccknndaaDoorAttP
namespace Go.Proofs.YtifhjhgccknndaaDoor
open Go.RowKit
set_option maxHeartbeats 2000000
set_option linter.unusedSimpArgs false
set_option linter.unusedVariables false

theorem impl_AreAttrs_any (v : Value) (l : List Att) (w : World) (h : RdA w v l) (hl : l.length ≤ 1048576) :
    Calls Tryd.prog 66 #[v] w fun e w' => e = .returned (.bool (goodB l)) ∧ Ext w w' := by
  obtain ⟨A, c, rfl, hc, hrd⟩ := h
  have HR := Lib.hid hrd
  clear hrd
  by_cases hn : l.length ≤ 400
  · have HG := Lib.hid (show goodB l = goodFrom 1 l by simp [goodB, hn])
    go_enter Tryd.func66, Tryd.ntmps66
    go_wp2
    go_loopw [11] (fun t wr => ∃ k : Nat, k ≤ l.length ∧ t = .int .i64 k ∧ Hid (goodB l = goodFrom (mostAt l k) (l.drop k)) ∧ Hid (∀ y, l[k - 1]? = some y → 0 < k → 1 ≤ y.depth ∧ y.depth ≤ 8) ∧ Ext w wr) (fun t _ => l.length - (intOf t).toNat)
    case atStart => exact ⟨0, Nat.zero_le _, rfl, HG.out, (fun y hy h0 => absurd h0 (by omega)), Ext.refl _⟩
    case round =>
      obtain ⟨k, hk, rfl, hg, hp, hx⟩ := hrel
      by_cases hlt : k < l.length
      · obtain ⟨b, o, rfl, hb, hcell⟩ := HR.out k l[k] (List.getElem?_eq_getElem hlt)
        have hst := goodFrom_step l k hlt (mostAt l k)
        have hsu := mostAt_succ l k hlt
        have hpv := mostAt_prev l k hlt
        have hkk : l[k]? = some l[k] := List.getElem?_eq_getElem hlt
        generalize l[k] = x at hcell hst hsu hkk
        have c0 : wr.cell? ⟨b, o + k * 4, none⟩ = some (.int .i64 x.depth) := by rw [Ext.cell hx hb]; exact hcell 0 _ rfl
        have c1 : wr.cell? ⟨b, o + k * 4 + 1, none⟩ = some (.int .i64 x.type) := by rw [Ext.cell hx hb]; exact hcell 1 _ rfl
        have c2 : wr.cell? ⟨b, o + k * 4 + 2, none⟩ = some (.bool x.nested) := by rw [Ext.cell hx hb]; exact hcell 2 _ rfl
        have c3 : wr.cell? ⟨b, o + k * 4 + 3, none⟩ = some (.string x.data) := by rw [Ext.cell hx hb]; exact hcell 3 _ rfl
        have z0 : b < wr.heap.size := Ext.lts hx _ hb
        clear hcell
        have HST := Lib.hid hst
        have HSU := Lib.hid hsu
        have HKK := Lib.hid hkk
        have HB := Lib.hid hb
        clear hst hsu hkk hb
        have hcase : ∃ mo : Int, Hid (mostAt l k = mo) ∧ ((k ≤ 0 ∧ mo = 1) ∨ (0 < k ∧ ∃ y : Att, Hid (l[k - 1]? = some y) ∧ 1 ≤ y.depth ∧ y.depth ≤ 8 ∧ ((y.nested = true ∧ mo = y.depth + 1) ∨ (y.nested = false ∧ mo = y.depth)))) := by
          by_cases h0 : 0 < k
          · have hy : l[k - 1]? = some (l[k - 1]'(by omega)) := List.getElem?_eq_getElem _
            refine ⟨mostAt l k, rfl, .inr ⟨h0, l[k - 1]'(by omega), hy, ?_⟩⟩
            have hd := hp.out _ hy h0
            refine ⟨hd.1, hd.2, ?_⟩
            rw [hpv h0]
            cases hyn : (l[k - 1]'(by omega)).nested
            · exact .inr ⟨rfl, by simp [mostAft, hyn]⟩
            · exact .inl ⟨rfl, by simp [mostAft, hyn]⟩
          · exact ⟨1, by show _ = _; simp [mostAt, show k = 0 by omega], .inl ⟨by omega, rfl⟩⟩
        clear hpv
        obtain ⟨mo, HMO, hcase⟩ := hcase
        have hnest : (x.nested = true ∧ x.data.toList.isEmpty = true) ∨ (x.nested = true ∧ x.data.toList.isEmpty = false) ∨ x.nested = false := by
          cases x.nested <;> cases x.data.toList.isEmpty <;> simp
        by_cases hok : attOk mo x = true
        · obtain ⟨⟨d0, d1⟩, ⟨t0, t1⟩, s0, hne, m0⟩ := attOk_parts hok
          have HOK := Lib.hid hok
          clear hok
          rcases hnest with ⟨n1, n2⟩ | ⟨n1, n2⟩ | n1
          rotate_left
          · rw [hne n1] at n2; cases n2
          all_goals
            clear hne
            rcases hcase with ⟨h0, rfl⟩ | ⟨h0, y, hy, y0, y1, ⟨yn, rfl⟩ | ⟨yn, rfl⟩⟩
            · go_wp2
              go_roundw
              case rel => exact ⟨k + 1, by omega, by go_num, by have := hg.out; rw [HST.out, HMO.out, HOK.out, ← HSU.out] at this; show _ = _; simpa using this, (fun y hy h0 => by have := HKK.out; simp at hy; rw [this] at hy; cases hy; exact ⟨d0, d1⟩), by (repeat (first | (with_reducible exact Ext.refl _) | (with_reducible assumption) | (with_reducible apply Ext.alloc) | (with_reducible apply Ext.drew) | (with_reducible apply Ext.drewN) | ((with_reducible refine Ext.setCell ?_ ?_ _); rotate_left; (focus (first | (simp; done) | (simp; omega) | omega))) | (with_reducible refine Ext.trans ?_ (by assumption))))⟩
              case measure => simp [intOf]; omega
            all_goals
              obtain ⟨b', o', hA, hb', hcell'⟩ := HR.out (k - 1) y hy.out
              simp only [Option.some.injEq, Addr.mk.injEq, and_true] at hA
              obtain ⟨rfl, rfl⟩ := hA
              have p0 : wr.cell? ⟨b, o + (k - 1) * 4, none⟩ = some (.int .i64 y.depth) := by rw [Ext.cell hx hb']; exact hcell' 0 _ rfl
              have p2 : wr.cell? ⟨b, o + (k - 1) * 4 + 2, none⟩ = some (.bool y.nested) := by rw [Ext.cell hx hb']; exact hcell' 2 _ rfl
              clear hcell'
              go_wp2
              go_roundw
              case rel => exact ⟨k + 1, by omega, by go_num, by have := hg.out; rw [HST.out, HMO.out, HOK.out, ← HSU.out] at this; show _ = _; simpa using this, (fun y hy h0 => by have := HKK.out; simp at hy; rw [this] at hy; cases hy; exact ⟨d0, d1⟩), by (repeat (first | (with_reducible exact Ext.refl _) | (with_reducible assumption) | (with_reducible apply Ext.alloc) | (with_reducible apply Ext.drew) | (with_reducible apply Ext.drewN) | ((with_reducible refine Ext.setCell ?_ ?_ _); rotate_left; (focus (first | (simp; done) | (simp; omega) | omega))) | (with_reducible refine Ext.trans ?_ (by assumption))))⟩
              case measure => simp [intOf]; omega
        · have hfin : goodB l = false := by have := hg.out; rw [HST.out, HMO.out, show attOk mo x = false by simpa using hok] at this; simpa using this
          have HF := Lib.hid hfin
          clear hfin
          by_cases hL : (1 ≤ x.depth ∧ x.depth ≤ 8 ∧ 0 ≤ x.type ∧ x.type ≤ 32767 ∧ x.data.size ≤ 1000 ∧ x.depth ≤ mo)
          · obtain ⟨d0, d1, t0, t1, s0, m0⟩ := hL
            rcases hnest with ⟨n1, n2⟩ | ⟨n1, n2⟩ | n1
            · exact absurd (attOk_mk ⟨d0, d1⟩ ⟨t0, t1⟩ s0 (.inr n2) m0) hok
            · clear hok hcase
              go_wp2
              go_ret
              refine ⟨by rw [HF.out]; rfl, ?_⟩
              (repeat (first | (with_reducible exact Ext.refl _) | (with_reducible assumption) | (with_reducible apply Ext.alloc) | (with_reducible apply Ext.drew) | (with_reducible apply Ext.drewN) | ((with_reducible refine Ext.setCell ?_ ?_ _); rotate_left; (focus (first | (simp; done) | (simp; omega) | omega))) | (with_reducible refine Ext.trans ?_ (by assumption))))
            · exact absurd (attOk_mk ⟨d0, d1⟩ ⟨t0, t1⟩ s0 (.inl n1) m0) hok
          · clear hok
            rcases hcase with ⟨h0, rfl⟩ | ⟨h0, y, hy, y0, y1, ⟨yn, rfl⟩ | ⟨yn, rfl⟩⟩
            · rcases hnest with ⟨n1, n2⟩ | ⟨n1, n2⟩ | n1
              all_goals
                go_wp2
                all_goals (go_ret; refine ⟨by rw [HF.out]; rfl, ?_⟩; (repeat (first | (with_reducible exact Ext.refl _) | (with_reducible assumption) | (with_reducible apply Ext.alloc) | (with_reducible apply Ext.drew) | (with_reducible apply Ext.drewN) | ((with_reducible refine Ext.setCell ?_ ?_ _); rotate_left; (focus (first | (simp; done) | (simp; omega) | omega))) | (with_reducible refine Ext.trans ?_ (by assumption)))))
            all_goals
              obtain ⟨b', o', hA, hb', hcell'⟩ := HR.out (k - 1) y hy.out
              simp only [Option.some.injEq, Addr.mk.injEq, and_true] at hA
              obtain ⟨rfl, rfl⟩ := hA
              have p0 : wr.cell? ⟨b, o + (k - 1) * 4, none⟩ = some (.int .i64 y.depth) := by rw [Ext.cell hx hb']; exact hcell' 0 _ rfl
              have p2 : wr.cell? ⟨b, o + (k - 1) * 4 + 2, none⟩ = some (.bool y.nested) := by rw [Ext.cell hx hb']; exact hcell' 2 _ rfl
              clear hcell'
              rcases hnest with ⟨n1, n2⟩ | ⟨n1, n2⟩ | n1
              all_goals
                go_wp2
                all_goals (go_ret; refine ⟨by rw [HF.out]; rfl, ?_⟩; (repeat (first | (with_reducible exact Ext.refl _) | (with_reducible assumption) | (with_reducible apply Ext.alloc) | (with_reducible apply Ext.drew) | (with_reducible apply Ext.drewN) | ((with_reducible refine Ext.setCell ?_ ?_ _); rotate_left; (focus (first | (simp; done) | (simp; omega) | omega))) | (with_reducible refine Ext.trans ?_ (by assumption)))))
      · obtain rfl : k = l.length := by omega
        go_wp2
        go_ret
        exact ⟨by have := hg.out; rw [List.drop_length] at this; rw [this]; rfl, hx⟩
  · have HG := Lib.hid (show goodB l = false by simp [goodB, hn])
    go_enter Tryd.func66, Tryd.ntmps66
    go_wp2
    go_ret
    exact ⟨by rw [HG.out]; rfl, Ext.refl _⟩
end Go.Proofs.YtifhjhgccknndaaDoor
