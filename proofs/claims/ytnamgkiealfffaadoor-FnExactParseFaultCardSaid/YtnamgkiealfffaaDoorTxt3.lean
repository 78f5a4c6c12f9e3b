/- Texts of numbers and of a class: both sides. -/
import Derived.Test.YtnamgkiealfffaaDoorTxt2
import Derived.Test.YtnamgkiealfffaaDoorRows
import Derived.Lib.LaidTab
namespace Go.Proofs.YtnamgkiealfffaaDoor
open Go.RowKit
set_option maxRecDepth 20000
set_option maxHeartbeats 1000000
set_option linter.unusedSimpArgs false
set_option linter.unusedVariables false

theorem spec_nuText_any (n : Int) (w : World) (h0 : 1 ≤ n) (h1 : n < 10000000000) :
    Calls Tryd.prog 36 #[.int .i64 n] w fun e w' => e = .returned (.string (ntx n)) ∧ Ext w w' := by
  have hf := forms_ntx (n := n) (by omega)
  go_enter Tryd.func36, Tryd.ntmps36
  go_wp2_with fail
  refine (spec_nuForms_any _ _ h0 h1).mono ?_
  rintro e w1 ⟨u, rfl, ho, F1⟩
  obtain ⟨UA, uc, rfl, huc, hrd⟩ := Own.rd ho scell_len
  obtain ⟨b, o, rfl, hb, hcell⟩ := hrd 0 _ hf
  have hl : (0 : Int) < ((forms n 3).length : Int) := by
    have := (List.getElem?_eq_some_iff.1 hf).1
    omega
  have c0 : w1.cell? ⟨b, o, none⟩ = some (.string (ntx n)) := by simpa using hcell 0 _ rfl
  clear hcell hrd ho hf
  go_wp2
  go_ret
  exact ⟨rfl, F1⟩
theorem spec_prHead_any (x : Cls) (w : World) (h : clsB x = true) :
    Calls Tryd.prog 16 #[clsV x] w fun e w' => e = .returned (.string (headT x)) ∧ Ext w w' := by
  simp only [clsB, Bool.and_eq_true, inR_iff] at h
  obtain ⟨⟨⟨⟨⟨⟨a0, a1⟩, b0, b1⟩, c0, c1⟩, d0, d1⟩, e0, e1⟩, f0, f1⟩ := h
  have s1 := dec_size (n := x.id) (by omega)
  have s2 := ntx_size (n := x.rate) (by omega) (by omega)
  have s3 := ntx_size (n := x.ceil) (by omega) (by omega)
  have s4 := ntx_size (n := x.burst) (by omega) (by omega)
  have s5 := ntx_size (n := x.cburst) (by omega) (by omega)
  have s6 := dec_size (n := x.prio) (by omega)
  go_enter Tryd.func16, Tryd.ntmps16
  (go_wp2_with fail; refine wp_region_ext (by kernel_rfl) (by kernel_rfl) ?_; (repeat (first | go_big_quiet_step ((first | (go_at_call 35; exact calls_later (spec_l1Num_any 10000000001 _ _ (by omega) (by omega) (by omega))) | (go_at_call 36; exact calls_later (spec_nuText_any _ _ (by omega) (by omega))))) | quiet_step ((first | (go_at_call 35; exact calls_later (spec_l1Num_any 10000000001 _ _ (by omega) (by omega) (by omega))) | (go_at_call 36; exact calls_later (spec_nuText_any _ _ (by omega) (by omega))))))); refine wpQuiet_nil ?_; intro wq hbq; (try (replace hbq := Ext.trans (by assumption) hbq)); have hcq := Ext.cells hbq; have hzq := Ext.frozens hbq; have hsq := Ext.lts hbq)
  go_wp2
  go_ret
  exact ⟨rfl, by (repeat (first | (with_reducible exact Ext.refl _) | (with_reducible assumption) | (with_reducible apply Ext.alloc) | (with_reducible apply Ext.drew) | (with_reducible apply Ext.drewN) | ((with_reducible refine Ext.setCell ?_ ?_ _); rotate_left; (focus (first | (simp; done) | (simp; omega) | omega))) | (with_reducible refine Ext.trans ?_ (by assumption))))⟩
/-- The table of powers of ten lies as the program's text lays it. -/
def PowTab (w : World) : Prop := Lib.TabIs Tryd.prog w (Rows.fnExactClassHeadRow.named.headD "") .u64 Lib.pow10Tab
theorem PowTab.ext {w w' : World} (h : PowTab w) (hx : Ext w w') : PowTab w' := by
  unfold PowTab Lib.TabIs World.var? at *
  generalize Rows.fnExactClassHeadRow.named.headD "" = nm at h ⊢
  cases hg : Tryd.prog.globalNamed nm with
  | none => simp [hg] at h
  | some g =>
    simp only [hg, Option.bind_some] at h ⊢
    have hlt : g < w.heap.size := by
      rcases Nat.lt_or_ge g w.heap.size with h' | h'
      · exact h'
      · rw [Array.getElem?_eq_none h'] at h; simp at h
    rw [Ext.block hx hlt]
    exact h
theorem ext_grow (w : World) (k : Nat) (os : Array Obj) : Ext w (Sort.grow (w.drewN k) os) :=
  ⟨rfl, rfl, rfl, by show w.heap.size ≤ (w.heap ++ os).size; rw [Array.size_append]; omega, fun j hj => by
    show (w.heap ++ os)[j]? = w.heap[j]?
    exact Array.getElem?_append_left hj⟩
theorem strconv_Itoa_any (n : Int) (w : World) (h0 : 0 ≤ n) (h1 : n < 10000000000) (hk : PowTab w) :
    Calls Tryd.prog 37 #[.int .i64 n] w fun e w' => e = .returned (.string (dec n)) ∧ Ext w w' := by
  refine (Any.strconv_Itoa Tryd.laysM171 n (by omega) (by omega) w hk).mono ?_
  rintro e w' ⟨rfl, k, os, rfl⟩
  exact ⟨by rw [itoa_dec h0], ext_grow w k os⟩
theorem impl_numberText_any (n : Int) (w : World) (h0 : 1 ≤ n) (h1 : n < 10000000000) (hk : PowTab w) :
    Calls Tryd.prog 38 #[.int .i64 n] w fun e w' => e = .returned (.string (ntx n)) ∧ Ext w w' := by
  have HK := Lib.hid hk
  clear hk
  have s1 := dec_size (n := n / 1000000) (by omega)
  have s2 := dec_size (n := n / 1000) (by omega)
  have s3 := dec_size (n := n) (by omega)
  by_cases hm : n % 1000000 = 0
  · have HT := Lib.hid (show ntx n = dec (n / 1000000) ++ ⟨#[109]⟩ by rw [ntx, if_pos ⟨by omega, hm⟩])
    go_enter Tryd.func38, Tryd.ntmps38
    go_wp2_with (first | (go_at_call 37; refine (strconv_Itoa_any _ _ (by omega) (by omega) HK.out).mono ?_; rintro e w2 ⟨rfl, F2⟩) | fail)
    go_ret
    exact ⟨by rw [HT.out]; rfl, F2⟩
  · by_cases hk : n % 1000 = 0
    · have HT := Lib.hid (show ntx n = dec (n / 1000) ++ ⟨#[107]⟩ by rw [ntx, if_neg (by omega), if_pos ⟨by omega, hk⟩])
      go_enter Tryd.func38, Tryd.ntmps38
      go_wp2_with (first | (go_at_call 37; refine (strconv_Itoa_any _ _ (by omega) (by omega) HK.out).mono ?_; rintro e w2 ⟨rfl, F2⟩) | fail)
      go_ret
      exact ⟨by rw [HT.out]; rfl, F2⟩
    · have HT := Lib.hid (show ntx n = dec n by rw [ntx, if_neg (by omega), if_neg (by omega)])
      go_enter Tryd.func38, Tryd.ntmps38
      go_wp2_with (first | (go_at_call 37; refine (strconv_Itoa_any _ _ (by omega) (by omega) HK.out).mono ?_; rintro e w2 ⟨rfl, F2⟩) | fail)
      go_ret
      exact ⟨by rw [HT.out]; rfl, F2⟩
theorem impl_classHead_any (x : Cls) (w : World) (h : clsB x = true) (hk : PowTab w) :
    Calls Tryd.prog 20 #[clsV x] w fun e w' => e = .returned (.string (headT x)) ∧ Ext w w' := by
  have HK := Lib.hid (hk.ext ((Ext.refl w).alloc (.cells #[.int .i64 x.id, .int .i64 x.parent, .int .i64 x.rate, .int .i64 x.ceil, .int .i64 x.burst, .int .i64 x.cburst, .int .i64 x.prio, .int .i64 x.limit] 26)))
  clear hk
  simp only [clsB, Bool.and_eq_true, inR_iff] at h
  obtain ⟨⟨⟨⟨⟨⟨a0, a1⟩, b0, b1⟩, c0, c1⟩, d0, d1⟩, e0, e1⟩, f0, f1⟩ := h
  have s1 := dec_size (n := x.id) (by omega)
  have s2 := ntx_size (n := x.rate) (by omega) (by omega)
  have s3 := ntx_size (n := x.ceil) (by omega) (by omega)
  have s4 := ntx_size (n := x.burst) (by omega) (by omega)
  have s5 := ntx_size (n := x.cburst) (by omega) (by omega)
  have s6 := dec_size (n := x.prio) (by omega)
  go_enter Tryd.func20, Tryd.ntmps20
  (go_wp2_with fail; refine wp_region_ext (by kernel_rfl) (by kernel_rfl) ?_; (repeat (first | go_big_quiet_step ((first | (go_at_call 37; exact calls_later (strconv_Itoa_any _ _ (by omega) (by omega) (HK.out.ext (Later.ext _)))) | (go_at_call 38; exact calls_later (impl_numberText_any _ _ (by omega) (by omega) (HK.out.ext (Later.ext _)))))) | quiet_step ((first | (go_at_call 37; exact calls_later (strconv_Itoa_any _ _ (by omega) (by omega) (HK.out.ext (Later.ext _)))) | (go_at_call 38; exact calls_later (impl_numberText_any _ _ (by omega) (by omega) (HK.out.ext (Later.ext _)))))))); refine wpQuiet_nil ?_; intro wq hbq; (try (replace hbq := Ext.trans (by assumption) hbq)); have hcq := Ext.cells hbq; have hzq := Ext.frozens hbq; have hsq := Ext.lts hbq)
  go_wp2
  go_ret
  exact ⟨rfl, by (repeat (first | (with_reducible exact Ext.refl _) | (with_reducible assumption) | (with_reducible apply Ext.alloc) | (with_reducible apply Ext.drew) | (with_reducible apply Ext.drewN) | ((with_reducible refine Ext.setCell ?_ ?_ _); rotate_left; (focus (first | (simp; done) | (simp; omega) | omega))) | (with_reducible refine Ext.trans ?_ (by assumption))))⟩
theorem spec_cfClass_any (x : Cls) (w : World) :
    Calls Tryd.prog 15 #[clsV x] w fun e w' => e = .returned (.bool (clsB x)) ∧ Ext w w' := by
  go_enter Tryd.func15, Tryd.ntmps15
  go_wp2_with (go_at_call 22; refine (spec_l1In_any _ _ _ _ ).mono ?_; rintro e w' ⟨rfl, rfl⟩)
  all_goals (go_ret; refine ⟨?_, (Ext.refl _).alloc _⟩; first | (simp [clsB, *]; done) | (simp_all [clsB]; done))
theorem impl_isId_any (a : Int) (w : World) :
    Calls Tryd.prog 17 #[.int .i64 a] w fun e w' => e = .returned (.bool (inR a 1 999)) ∧ w = w' := by
  go_enter Tryd.func17, Tryd.ntmps17
  go_wp2
  all_goals (go_ret; refine ⟨?_, rfl⟩; first | (simp [inR, *]; done) | (simp [inR, *]; omega))
theorem impl_rateRight_any (x : Cls) (w : World) :
    Calls Tryd.prog 18 #[clsV x] w fun e w' => e = .returned (.bool (rateB x)) ∧ Ext w w' := by
  go_enter Tryd.func18, Tryd.ntmps18
  go_wp2
  all_goals (go_ret; refine ⟨?_, (Ext.refl _).alloc _⟩; first | (simp [rateB, inR, *]; done) | (simp [rateB, inR, *]; omega))
theorem impl_burstRight_any (x : Cls) (w : World) :
    Calls Tryd.prog 19 #[clsV x] w fun e w' => e = .returned (.bool (burstB x)) ∧ Ext w w' := by
  go_enter Tryd.func19, Tryd.ntmps19
  go_wp2
  all_goals (go_ret; refine ⟨?_, (Ext.refl _).alloc _⟩; first | (simp [burstB, inR, *]; done) | (simp [burstB, inR, *]; omega))
end Go.Proofs.YtnamgkiealfffaaDoor
