/- The reference's test of attributes. -/
import Derived.Test.YtifhjhgccknndaaAttr
namespace Go.Proofs.Ytifhjhgccknndaa
open Go.RowKit
set_option maxHeartbeats 2000000
set_option linter.unusedSimpArgs false
set_option linter.unusedVariables false

theorem attOk_five (mo : Int) (x : Att) : 
    (attOk mo x = false ∧ inR x.depth 1 (min mo 8) = false) ∨
    (attOk mo x = false ∧ inR x.depth 1 (min mo 8) = true ∧ inR x.type 0 32767 = false) ∨
    (attOk mo x = false ∧ inR x.depth 1 (min mo 8) = true ∧ inR x.type 0 32767 = true ∧ decide ((1000 : Int) < (x.data.size : Int)) = true) ∨
    (attOk mo x = false ∧ inR x.depth 1 (min mo 8) = true ∧ inR x.type 0 32767 = true ∧ decide ((1000 : Int) < (x.data.size : Int)) = false ∧ x.nested = true ∧ x.data.toList.isEmpty = false) ∨
    (attOk mo x = true ∧ inR x.depth 1 (min mo 8) = true ∧ inR x.type 0 32767 = true ∧ decide ((1000 : Int) < (x.data.size : Int)) = false ∧ x.nested = true ∧ x.data.toList.isEmpty = true) ∨
    (attOk mo x = true ∧ inR x.depth 1 (min mo 8) = true ∧ inR x.type 0 32767 = true ∧ decide ((1000 : Int) < (x.data.size : Int)) = false ∧ x.nested = false) := by
  by_cases h1 : inR x.depth 1 (min mo 8) = true
  · have h1' := inR_iff.1 h1
    by_cases h2 : inR x.type 0 32767 = true
    · have h2' := inR_iff.1 h2
      by_cases h3 : x.data.size ≤ 1000
      · have h3' : decide ((1000 : Int) < (x.data.size : Int)) = false := by simp; omega
        cases hn : x.nested
        · exact .inr (.inr (.inr (.inr (.inr ⟨attOk_mk (by omega) h2' h3 (.inl hn) (by omega), h1, h2, h3', rfl⟩))))
        · cases he : x.data.toList.isEmpty
          · refine .inr (.inr (.inr (.inl ⟨?_, h1, h2, h3', rfl, rfl⟩)))
            simp [attOk, hn, he]
          · exact .inr (.inr (.inr (.inr (.inl ⟨attOk_mk (by omega) h2' h3 (.inr he) (by omega), h1, h2, h3', rfl, rfl⟩))))
      · refine .inr (.inr (.inl ⟨?_, h1, h2, by simp; omega⟩))
        simp [attOk, h3]
    · have h2 : inR x.type 0 32767 = false := by simpa using h2
      exact .inr (.inl ⟨by simp [attOk, h2], h1, h2⟩)
  · have h1 : inR x.depth 1 (min mo 8) = false := by simpa using h1
    refine .inl ⟨?_, h1⟩
    rw [inR_not] at h1
    by_cases h : attOk mo x = true
    · obtain ⟨h2, _, _, _, h3⟩ := attOk_parts h
      omega
    · simpa using h

theorem spec_tvGood_any (v : Value) (l : List Att) (w : World) (h : RdA w v l) (hl : l.length ≤ 1048576) :
    Calls Try.prog 51 #[v] w fun e w' => e = .returned (.bool (goodB l)) ∧ Ext w w' := by
  obtain ⟨A, c, rfl, hc, hrd⟩ := h
  have HR := Lib.hid hrd
  clear hrd
  go_enter Try.func51, Try.ntmps51
  go_wp2
  go_loopw [8] (fun t wr => ∃ k : Nat, k ≤ l.length ∧ t = .int .i64 k ∧ Hid (goodFrom 1 l = goodFrom (mostAt l k) (l.drop k)) ∧ Hid (∀ y, l[k - 1]? = some y → 0 < k → 1 ≤ y.depth ∧ y.depth ≤ 8) ∧ Ext w wr) (fun t _ => l.length - (intOf t).toNat)
  case atStart => exact ⟨0, Nat.zero_le _, rfl, by show _ = _; simp [mostAt], (fun y hy h0 => absurd h0 (by omega)), Ext.refl _⟩
  case round =>
    obtain ⟨k, hk, rfl, hg, hp, hx⟩ := hrel
    by_cases hlt : k < l.length
    · obtain ⟨b, o, rfl, hb, hcell⟩ := HR.out k l[k] (List.getElem?_eq_getElem hlt)
      have hst := goodFrom_step l k hlt (mostAt l k)
      have hsu := mostAt_succ l k hlt
      have hpv := mostAt_prev l k hlt
      have hkk : l[k]? = some l[k] := List.getElem?_eq_getElem hlt
      generalize l[k] = x at hcell hst hsu hkk
      have c0 : wr.cell? ⟨b, o + k * 4, none⟩ = some (.int .i64 x.depth) := by rw [Ext.cell hx hb]; exact hcell 0 _ rfl
      have c1 : wr.cell? ⟨b, o + k * 4 + 1, none⟩ = some (.int .i64 x.type) := by rw [Ext.cell hx hb]; exact hcell 1 _ rfl
      have c2 : wr.cell? ⟨b, o + k * 4 + 2, none⟩ = some (.bool x.nested) := by rw [Ext.cell hx hb]; exact hcell 2 _ rfl
      have c3 : wr.cell? ⟨b, o + k * 4 + 3, none⟩ = some (.string x.data) := by rw [Ext.cell hx hb]; exact hcell 3 _ rfl
      have z0 : b < wr.heap.size := Ext.lts hx _ hb
      clear hcell
      have HST := Lib.hid hst
      have HSU := Lib.hid hsu
      have HKK := Lib.hid hkk
      clear hst hsu hkk hb
      have hcase : ∃ mo : Int, Hid (mostAt l k = mo) ∧ ((k ≤ 0 ∧ mo = 1) ∨ (0 < k ∧ ∃ y : Att, Hid (l[k - 1]? = some y) ∧ 1 ≤ y.depth ∧ y.depth ≤ 8 ∧ ((y.nested = true ∧ mo = y.depth + 1) ∨ (y.nested = false ∧ mo = y.depth)))) := by
        by_cases h0 : 0 < k
        · have hy : l[k - 1]? = some (l[k - 1]'(by omega)) := List.getElem?_eq_getElem _
          refine ⟨mostAt l k, rfl, .inr ⟨h0, l[k - 1]'(by omega), hy, ?_⟩⟩
          have hd := hp.out _ hy h0
          refine ⟨hd.1, hd.2, ?_⟩
          rw [hpv h0]
          cases hyn : (l[k - 1]'(by omega)).nested
          · exact .inr ⟨rfl, by simp [mostAft, hyn]⟩
          · exact .inl ⟨rfl, by simp [mostAft, hyn]⟩
        · exact ⟨1, by show _ = _; simp [mostAt, show k = 0 by omega], .inl ⟨by omega, rfl⟩⟩
      clear hpv
      obtain ⟨mo, HMO, hcase⟩ := hcase
      have h5 := attOk_five mo x
      have HD := Lib.hid (fun h : attOk mo x = true => (attOk_parts h).1)
      have hfalse : Hid (attOk mo x = false → goodB l = false) := fun h => by have := hg.out; rw [HST.out, HMO.out, h] at this; simp [goodB, this]
      have hnext : Hid (attOk mo x = true → goodFrom 1 l = goodFrom (mostAt l (k + 1)) (l.drop (k + 1))) := fun h => by have := hg.out; rw [HST.out, HMO.out, h, ← HSU.out] at this; simpa using this
      clear HST HSU
      rcases hcase with ⟨h0, rfl⟩ | ⟨h0, y, hy, y0, y1, ⟨yn, rfl⟩ | ⟨yn, rfl⟩⟩
      rotate_left
      all_goals (try (
        obtain ⟨b', o', hA, hb', hcell'⟩ := HR.out (k - 1) y hy.out
        simp only [Option.some.injEq, Addr.mk.injEq, and_true] at hA
        obtain ⟨rfl, rfl⟩ := hA
        have p0 : wr.cell? ⟨b, o + (k - 1) * 4, none⟩ = some (.int .i64 y.depth) := by rw [Ext.cell hx hb']; exact hcell' 0 _ rfl
        have p2 : wr.cell? ⟨b, o + (k - 1) * 4 + 2, none⟩ = some (.bool y.nested) := by rw [Ext.cell hx hb']; exact hcell' 2 _ rfl
        clear hcell'))
      all_goals
        rcases h5 with ⟨ha, h1⟩ | ⟨ha, h1, h2⟩ | ⟨ha, h1, h2, h3⟩ | ⟨ha, h1, h2, h3, h4, h6⟩ | ⟨ha, h1, h2, h3, h4, h6⟩ | ⟨ha, h1, h2, h3, h4⟩
        rotate_right 2
        all_goals
          have HA := Lib.hid ha
          clear ha
          (go_wp2_with fail; refine wp_region_ext (by kernel_rfl) (by kernel_rfl) ?_; (repeat (first | go_big_quiet_step ((first | (go_at_call 83; exact calls_later_same (spec_l1Least_any _ _ _ )) | (go_at_call 75; exact calls_later_same (spec_l1In_any _ _ _ _ )))) | quiet_step ((first | (go_at_call 83; exact calls_later_same (spec_l1Least_any _ _ _ )) | (go_at_call 75; exact calls_later_same (spec_l1In_any _ _ _ _ )))))); refine wpQuiet_nil ?_; intro wq hbq; (try (replace hbq := Ext.trans (by assumption) hbq)); have hcq := Ext.cells hbq; have hzq := Ext.frozens hbq; have hsq := Ext.lts hbq)
          go_wp2
          first
            | (go_roundw
               case rel => exact ⟨k + 1, by omega, by go_num, hnext.out HA.out, (fun y hy h0 => by have := HKK.out; simp at hy; rw [this] at hy; cases hy; exact HD.out HA.out), by (repeat (first | (with_reducible exact Ext.refl _) | (with_reducible assumption) | (with_reducible apply Ext.alloc) | (with_reducible apply Ext.drew) | (with_reducible apply Ext.drewN) | ((with_reducible refine Ext.setCell ?_ ?_ _); rotate_left; (focus (first | (simp; done) | (simp; omega) | omega))) | (with_reducible refine Ext.trans ?_ (by assumption))))⟩
               case measure => simp [intOf]; omega)
            | (go_ret
               refine ⟨by rw [hfalse.out HA.out]; rfl, ?_⟩
               (repeat (first | (with_reducible exact Ext.refl _) | (with_reducible assumption) | (with_reducible apply Ext.alloc) | (with_reducible apply Ext.drew) | (with_reducible apply Ext.drewN) | ((with_reducible refine Ext.setCell ?_ ?_ _); rotate_left; (focus (first | (simp; done) | (simp; omega) | omega))) | (with_reducible refine Ext.trans ?_ (by assumption)))))
    · obtain rfl : k = l.length := by omega
      by_cases hn : l.length ≤ 400
      · have HG := Lib.hid (show goodB l = true by have := hg.out; rw [List.drop_length] at this; simp [goodB, this, goodFrom, hn])
        go_wp2
        go_ret
        exact ⟨by rw [HG.out]; simp [hn]; omega, hx⟩
      · have HG := Lib.hid (show goodB l = false by simp [goodB, hn])
        go_wp2
        go_ret
        exact ⟨by rw [HG.out]; simp [hn]; omega, hx⟩
end Go.Proofs.Ytifhjhgccknndaa
