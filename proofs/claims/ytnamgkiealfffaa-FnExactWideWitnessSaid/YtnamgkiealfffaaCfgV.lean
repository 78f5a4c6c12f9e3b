/- WideWitness: contracts of both sides. Printed by wip/tools/gen_wide.py. -/
import Derived.Test.YtnamgkiealfffaaCfgW
namespace Go.Proofs.Ytnamgkiealfffaa
open Go.RowKit
set_option maxRecDepth 20000
set_option maxHeartbeats 1000000
set_option linter.unusedSimpArgs false
set_option linter.unusedVariables false

def wwC (n : Int) (k : Nat) : Cls := if k = 0 then ⟨1, 0, 10 * (n - 1), 10 * (n - 1), 1500, 1500, 0, 0⟩ else ⟨(k : Int) + 1, 1, 10, 10, 1500, 1500, 0, 1⟩
def wwF (k : Nat) : Flt := ⟨(k : Int) + 1, 2, 65535, (k : Int) + 2, (k : Int) + 2⟩
def wwL (n : Int) (m : Nat) : List Cls := (List.range m).map (wwC n)
def wfL (m : Nat) : List Flt := (List.range m).map wwF
theorem wwL_len (n : Int) (m : Nat) : (wwL n m).length = m := by simp [wwL]
theorem wfL_len (m : Nat) : (wfL m).length = m := by simp [wfL]
theorem wwL_succ (n : Int) (m : Nat) : wwL n (m + 1) = wwL n m ++ [wwC n m] := by simp [wwL, List.range_succ]
theorem wfL_succ (m : Nat) : wfL (m + 1) = wfL m ++ [wwF m] := by simp [wfL, List.range_succ]
/-- How many filters n classes have: n - 1, at most 16. -/
def nflt (n : Nat) : Nat := min (n - 1) 16
def wwR (n : Int) : CfgR := if inR n 2 24 then ⟨wideS, wwL n n.toNat, wfL (nflt n.toNat), 0, true⟩ else noCfg
theorem wwR_len (n : Int) : (wwR n).cls.length ≤ 2000000 ∧ (wwR n).flt.length ≤ 2000000 := by
  unfold wwR
  split
  · rename_i h
    have := inR_iff.1 h
    simp [wwL_len, wfL_len, nflt]
    omega
  · simp [noCfg]
theorem impl_WideWitness_any (a : Int) (w : World) :
    Calls Try.prog 11 #[.int .i64 a] w (RetC (wwR a) w) := by
  cases hin : inR a 2 24
  · have HR := Lib.hid (show wwR a = noCfg by rw [wwR, hin]; rfl)
    have hn := inR_not.1 hin
    rw [HR.out]
    by_cases ha : a < 2
    all_goals (try (have ha8 : 24 < a := by omega))
    all_goals
      go_enter Try.func11, Try.ntmps11
      go_wp2
      refine bodyPost_ret (v := .tuple #[cfgV ⟨#[]⟩ (.slice none 0 0) (.slice none 0 0) 0, .bool false]) (by simp [results, Try.results11, go_sem]) rfl (RetC.no ?_)
      (repeat (first | (with_reducible exact Ext.refl _) | (with_reducible assumption) | (with_reducible apply Ext.alloc) | (with_reducible apply Ext.drew) | (with_reducible apply Ext.drewN) | ((with_reducible refine Ext.setCell ?_ ?_ _); rotate_left; (focus (first | (simp; done) | (simp; omega) | omega))) | (with_reducible refine Ext.trans ?_ (by assumption))))
  obtain ⟨h2, h24⟩ := inR_iff.1 hin
  obtain ⟨z, rfl⟩ := Int.eq_ofNat_of_zero_le (show 0 ≤ a by omega)
  have HR := Lib.hid (show wwR (z : Int) = ⟨wideS, wwL z z, wfL (nflt z), 0, true⟩ by rw [wwR, hin]; simp)
  have hz2 : 2 ≤ z := by omega
  have hz24 : z ≤ 24 := by omega
  rw [HR.out]
  clear hin
  have hx := ((Ext.refl w).alloc (.cells #[.string ⟨#[]⟩, .slice none 0 0, .slice none 0 0, .int .i64 0] 25)).alloc (.cells #[.string wideS, .slice none 0 0, .slice none 0 0, .int .i64 0] 25)
  have hbr := Lib.hid ((Blk.new w 25 #[.string ⟨#[]⟩, .slice none 0 0, .slice none 0 0, .int .i64 0]).ext ((Ext.refl _).alloc (.cells #[.string wideS, .slice none 0 0, .slice none 0 0, .int .i64 0] 25)))
  have hbc := Lib.hid (show Blk ((w.alloc (.cells #[.string ⟨#[]⟩, .slice none 0 0, .slice none 0 0, .int .i64 0] 25)).alloc (.cells #[.string wideS, .slice none 0 0, .slice none 0 0, .int .i64 0] 25)) (w.heap.size + 1) 25 #[.string wideS, .slice none 0 0, .slice none 0 0, .int .i64 0] by
    have := Blk.new (w.alloc (.cells #[.string ⟨#[]⟩, .slice none 0 0, .slice none 0 0, .int .i64 0] 25)) 25 #[.string wideS, .slice none 0 0, .slice none 0 0, .int .i64 0]
    simpa using this)
  have hown := Lib.hid (show OwnC ((w.alloc (.cells #[.string ⟨#[]⟩, .slice none 0 0, .slice none 0 0, .int .i64 0] 25)).alloc (.cells #[.string wideS, .slice none 0 0, .slice none 0 0, .int .i64 0] 25)) (w.heap.size + 2) (.slice none 0 0) (wwL z 0) from World.ownsRow_nil _ _ _ _)
  have hflt := Lib.hid (show OwnF ((w.alloc (.cells #[.string ⟨#[]⟩, .slice none 0 0, .slice none 0 0, .int .i64 0] 25)).alloc (.cells #[.string wideS, .slice none 0 0, .slice none 0 0, .int .i64 0] 25)) (w.heap.size + 2) (.slice none 0 0) (wfL 0) from World.ownsRow_nil _ _ _ _)
  go_enter Try.func11, Try.ntmps11
  obtain ⟨⟨p0, p1, p2, p3⟩, ⟨g0, g1, g2, g3⟩, hg⟩ := C4.blk hbc.out
  go_wp2_with (at_builtin; refine app_hC (wwC z 0) (bs := w.heap.size + 2) (Own.ext hown.out (by (repeat (first | (with_reducible exact Ext.refl _) | (with_reducible assumption) | (with_reducible apply Ext.alloc) | (with_reducible apply Ext.drew) | (with_reducible apply Ext.drewN) | ((with_reducible refine Ext.setCell ?_ ?_ _); rotate_left; (focus (first | (simp; done) | (simp; omega) | omega))) | (with_reducible refine Ext.trans ?_ (by assumption)))))) (by rw [wwL_len]; omega) (by first | omega | (simp; done) | (simp; omega)) (by simp [Cls.cells, wwC]; try omega) rfl rfl rfl (by first | rfl | (show Value.slice _ _ _ = _; simp; done)) ?_; intro v2 w2 hown2 hG2; obtain ⟨A2, k2, rfl, _, _⟩ := Own.rd hown2 Cls.len; have HO2 := Lib.hid hown2; have BC2 := Lib.hid ((hbc.out.ext (by (repeat (first | (with_reducible exact Ext.refl _) | (with_reducible assumption) | (with_reducible apply Ext.alloc) | (with_reducible apply Ext.drew) | (with_reducible apply Ext.drewN) | ((with_reducible refine Ext.setCell ?_ ?_ _); rotate_left; (focus (first | (simp; done) | (simp; omega) | omega))) | (with_reducible refine Ext.trans ?_ (by assumption)))))).grown hG2 (fun e => by have := (Own.lt hown.out _ e).1; omega)); have BR2 := Lib.hid ((hbr.out.ext (by (repeat (first | (with_reducible exact Ext.refl _) | (with_reducible assumption) | (with_reducible apply Ext.alloc) | (with_reducible apply Ext.drew) | (with_reducible apply Ext.drewN) | ((with_reducible refine Ext.setCell ?_ ?_ _); rotate_left; (focus (first | (simp; done) | (simp; omega) | omega))) | (with_reducible refine Ext.trans ?_ (by assumption)))))).grown hG2 (fun e => by have := (Own.lt hown.out _ e).1; omega)); have HF2 := Lib.hid ((Own.ext hflt.out (by (repeat (first | (with_reducible exact Ext.refl _) | (with_reducible assumption) | (with_reducible apply Ext.alloc) | (with_reducible apply Ext.drew) | (with_reducible apply Ext.drewN) | ((with_reducible refine Ext.setCell ?_ ?_ _); rotate_left; (focus (first | (simp; done) | (simp; omega) | omega))) | (with_reducible refine Ext.trans ?_ (by assumption)))))).kept hG2 (fun g hg => .inr (fun h => Own.apart hflt.out hown.out (by decide) g h hg))); have HE2 := Lib.hid (Ext.grown (show Ext w _ by (repeat (first | (with_reducible exact Ext.refl _) | (with_reducible assumption) | (with_reducible apply Ext.alloc) | (with_reducible apply Ext.drew) | (with_reducible apply Ext.drewN) | ((with_reducible refine Ext.setCell ?_ ?_ _); rotate_left; (focus (first | (simp; done) | (simp; omega) | omega))) | (with_reducible refine Ext.trans ?_ (by assumption))))) hG2 (fun g hg => by have := (Own.lt hown.out g hg).1; omega)); clear hown2 hG2 p0 p1 p2 p3 g0 g1 g2 g3 hg; obtain ⟨⟨p0, p1, p2, p3⟩, ⟨g0, g1, g2, g3⟩, hg⟩ := C4.blk BC2.out)
  clear p0 p1 p2 p3 g0 g1 g2 g3 hg
  go_loopw [5] (fun t wr => ∃ m : Nat, 1 ≤ m ∧ m ≤ z ∧ t = .int .i64 ((m : Int) + 1) ∧ (∃ vc vf, Hid (OwnC wr (w.heap.size + 2) vc (wwL z m)) ∧ Hid (OwnF wr (w.heap.size + 2) vf (wfL (nflt m))) ∧ Hid (Blk wr (w.heap.size + 1) 25 #[.string wideS, vc, vf, .int .i64 0])) ∧ Hid (Blk wr w.heap.size 25 #[.string ⟨#[]⟩, .slice none 0 0, .slice none 0 0, .int .i64 0]) ∧ Ext w wr) (fun t _ => z + 1 - (intOf t).toNat)
  case atStart => exact ⟨1, Nat.le_refl _, by omega, by go_num, ⟨_, _, Own.setCell HO2.out (by omega) _ _, Own.setCell HF2.out (by omega) _ _, Lib.hid (by have := BC2.out.set_ 1 (.slice A2 (wwL z 0 ++ [wwC z 0]).length k2); simpa using this)⟩, BR2.out.kept (by omega) _ _, by have hx := HE2.out; (repeat (first | (with_reducible exact Ext.refl _) | (with_reducible assumption) | (with_reducible apply Ext.alloc) | (with_reducible apply Ext.drew) | (with_reducible apply Ext.drewN) | ((with_reducible refine Ext.setCell ?_ ?_ _); rotate_left; (focus (first | (simp; done) | (simp; omega) | omega))) | (with_reducible refine Ext.trans ?_ (by assumption))))⟩
  clear hown hflt hbc hbr hx HO2 HF2 BC2 BR2 HE2
  case round =>
    obtain ⟨m, hm1, hm, rfl, ⟨vc, vf, hown, hflt, hbc⟩, hbr, hx⟩ := hrel
    obtain ⟨⟨p0, p1, p2, p3⟩, ⟨g0, g1, g2, g3⟩, hg⟩ := C4.blk hbc.out
    by_cases hlt : m < z
    · have hm0 : m ≠ 0 := by omega
      by_cases hl : m + 1 ≤ 17
      · have hl0 : (m : Int) + 1 ≤ 17 := by omega
        have HNF := Lib.hid (show nflt m = m - 1 by unfold nflt; omega)
        go_wp2_with (first | (at_builtin; refine app_hC (wwC z m) (bs := w.heap.size + 2) (Own.ext hown.out (by (repeat (first | (with_reducible exact Ext.refl _) | (with_reducible assumption) | (with_reducible apply Ext.alloc) | (with_reducible apply Ext.drew) | (with_reducible apply Ext.drewN) | ((with_reducible refine Ext.setCell ?_ ?_ _); rotate_left; (focus (first | (simp; done) | (simp; omega) | omega))) | (with_reducible refine Ext.trans ?_ (by assumption)))))) (by rw [wwL_len]; omega) (by first | omega | (simp; done) | (simp; omega)) (by simp [Cls.cells, wwC, hm0]; try omega) rfl rfl rfl (by first | rfl | (show Value.slice _ _ _ = _; simp; done)) ?_; intro v2 w2 hown2 hG2; obtain ⟨A2, k2, rfl, _, _⟩ := Own.rd hown2 Cls.len; have HO2 := Lib.hid hown2; have BC2 := Lib.hid ((hbc.out.ext (by (repeat (first | (with_reducible exact Ext.refl _) | (with_reducible assumption) | (with_reducible apply Ext.alloc) | (with_reducible apply Ext.drew) | (with_reducible apply Ext.drewN) | ((with_reducible refine Ext.setCell ?_ ?_ _); rotate_left; (focus (first | (simp; done) | (simp; omega) | omega))) | (with_reducible refine Ext.trans ?_ (by assumption)))))).grown hG2 (fun e => by have := (Own.lt hown.out _ e).1; omega)); have BR2 := Lib.hid ((hbr.out.ext (by (repeat (first | (with_reducible exact Ext.refl _) | (with_reducible assumption) | (with_reducible apply Ext.alloc) | (with_reducible apply Ext.drew) | (with_reducible apply Ext.drewN) | ((with_reducible refine Ext.setCell ?_ ?_ _); rotate_left; (focus (first | (simp; done) | (simp; omega) | omega))) | (with_reducible refine Ext.trans ?_ (by assumption)))))).grown hG2 (fun e => by have := (Own.lt hown.out _ e).1; omega)); have HF2 := Lib.hid ((Own.ext hflt.out (by (repeat (first | (with_reducible exact Ext.refl _) | (with_reducible assumption) | (with_reducible apply Ext.alloc) | (with_reducible apply Ext.drew) | (with_reducible apply Ext.drewN) | ((with_reducible refine Ext.setCell ?_ ?_ _); rotate_left; (focus (first | (simp; done) | (simp; omega) | omega))) | (with_reducible refine Ext.trans ?_ (by assumption)))))).kept hG2 (fun g hg => .inr (fun h => Own.apart hflt.out hown.out (by decide) g h hg))); have HE2 := Lib.hid (Ext.grown (show Ext w _ by (repeat (first | (with_reducible exact Ext.refl _) | (with_reducible assumption) | (with_reducible apply Ext.alloc) | (with_reducible apply Ext.drew) | (with_reducible apply Ext.drewN) | ((with_reducible refine Ext.setCell ?_ ?_ _); rotate_left; (focus (first | (simp; done) | (simp; omega) | omega))) | (with_reducible refine Ext.trans ?_ (by assumption))))) hG2 (fun g hg => by have := (Own.lt hown.out g hg).1; omega)); clear hown2 hG2 p0 p1 p2 p3 g0 g1 g2 g3 hg; obtain ⟨⟨p0, p1, p2, p3⟩, ⟨g0, g1, g2, g3⟩, hg⟩ := C4.blk BC2.out) | (at_builtin; refine app_hF (wwF (nflt m)) (bs := w.heap.size + 2) (Own.setCell HF2.out (by omega) 1 _) (by rw [wfL_len]; unfold nflt; omega) (by first | omega | (simp; done) | (simp; omega)) (by have hnf := HNF.out; simp [Flt.cells, wwF]; omega) rfl rfl rfl (by first | rfl | (show Value.slice _ _ _ = _; simp; done)) ?_; intro v3 w3 hown3 hG3; obtain ⟨A3, k3, rfl, _, _⟩ := Own.rd hown3 Flt.len; have HF3 := Lib.hid hown3; have BC3 := Lib.hid (((BC2.out.set_ 1 (.slice A2 ((wwL z m).length + 1) k2)).ext ((Ext.refl _).alloc _)).grown hG3 (fun e => by have := (Own.lt HF2.out _ e).1; omega)); have BR3 := Lib.hid (((BR2.out.kept (show w.heap.size + 1 ≠ w.heap.size by omega) 1 _).ext ((Ext.refl _).alloc _)).grown hG3 (fun e => by have := (Own.lt HF2.out _ e).1; omega)); have HO3 := Lib.hid ((Own.ext (Own.setCell HO2.out (show w.heap.size + 1 < w.heap.size + 2 by omega) 1 _) ((Ext.refl _).alloc _)).kept hG3 (fun g hg => .inr (fun h => Own.apart HO2.out HF2.out (by decide) g h hg))); have HE3 := Lib.hid (Ext.grown (((show Ext w _ from HE2.out).setCell (p := ⟨w.heap.size + 1, 1, none⟩) (by simp) _).alloc _) hG3 (fun g hg => by have := (Own.lt HF2.out g hg).1; omega)); clear hown3 hG3 p0 p1 p2 p3 g0 g1 g2 g3 hg; have BC3' := BC3.out; simp only [List.setIfInBounds_toArray, List.set_cons_succ, List.set_cons_zero] at BC3'; have BC4 := Lib.hid BC3'; clear BC3'; obtain ⟨⟨p0, p1, p2, p3⟩, ⟨g0, g1, g2, g3⟩, hg⟩ := C4.blk BC4.out))
        go_wp2
        go_roundw
        case rel => exact ⟨m + 1, by omega, by omega, by go_num, ⟨_, _, by rw [wwL_succ]; exact Own.setCell HO3.out (by omega) _ _, by rw [show nflt (m + 1) = nflt m + 1 by unfold nflt; omega, wfL_succ]; exact Own.setCell HF3.out (by omega) _ _, Lib.hid (by have := Blk.set_ BC4.out 2 (.slice A3 (wfL (nflt m) ++ [wwF (nflt m)]).length k3); simpa using this)⟩, BR3.out.kept (by omega) _ _, by have hx := HE3.out; (repeat (first | (with_reducible exact Ext.refl _) | (with_reducible assumption) | (with_reducible apply Ext.alloc) | (with_reducible apply Ext.drew) | (with_reducible apply Ext.drewN) | ((with_reducible refine Ext.setCell ?_ ?_ _); rotate_left; (focus (first | (simp; done) | (simp; omega) | omega))) | (with_reducible refine Ext.trans ?_ (by assumption))))⟩
        case measure => simp [intOf]; omega
      · have hl0 : ¬ (m : Int) + 1 ≤ 17 := by omega
        go_wp2_with (at_builtin; refine app_hC (wwC z m) (bs := w.heap.size + 2) (Own.ext hown.out (by (repeat (first | (with_reducible exact Ext.refl _) | (with_reducible assumption) | (with_reducible apply Ext.alloc) | (with_reducible apply Ext.drew) | (with_reducible apply Ext.drewN) | ((with_reducible refine Ext.setCell ?_ ?_ _); rotate_left; (focus (first | (simp; done) | (simp; omega) | omega))) | (with_reducible refine Ext.trans ?_ (by assumption)))))) (by rw [wwL_len]; omega) (by first | omega | (simp; done) | (simp; omega)) (by simp [Cls.cells, wwC, hm0]; try omega) rfl rfl rfl (by first | rfl | (show Value.slice _ _ _ = _; simp; done)) ?_; intro v2 w2 hown2 hG2; obtain ⟨A2, k2, rfl, _, _⟩ := Own.rd hown2 Cls.len; have HO2 := Lib.hid hown2; have BC2 := Lib.hid ((hbc.out.ext (by (repeat (first | (with_reducible exact Ext.refl _) | (with_reducible assumption) | (with_reducible apply Ext.alloc) | (with_reducible apply Ext.drew) | (with_reducible apply Ext.drewN) | ((with_reducible refine Ext.setCell ?_ ?_ _); rotate_left; (focus (first | (simp; done) | (simp; omega) | omega))) | (with_reducible refine Ext.trans ?_ (by assumption)))))).grown hG2 (fun e => by have := (Own.lt hown.out _ e).1; omega)); have BR2 := Lib.hid ((hbr.out.ext (by (repeat (first | (with_reducible exact Ext.refl _) | (with_reducible assumption) | (with_reducible apply Ext.alloc) | (with_reducible apply Ext.drew) | (with_reducible apply Ext.drewN) | ((with_reducible refine Ext.setCell ?_ ?_ _); rotate_left; (focus (first | (simp; done) | (simp; omega) | omega))) | (with_reducible refine Ext.trans ?_ (by assumption)))))).grown hG2 (fun e => by have := (Own.lt hown.out _ e).1; omega)); have HF2 := Lib.hid ((Own.ext hflt.out (by (repeat (first | (with_reducible exact Ext.refl _) | (with_reducible assumption) | (with_reducible apply Ext.alloc) | (with_reducible apply Ext.drew) | (with_reducible apply Ext.drewN) | ((with_reducible refine Ext.setCell ?_ ?_ _); rotate_left; (focus (first | (simp; done) | (simp; omega) | omega))) | (with_reducible refine Ext.trans ?_ (by assumption)))))).kept hG2 (fun g hg => .inr (fun h => Own.apart hflt.out hown.out (by decide) g h hg))); have HE2 := Lib.hid (Ext.grown (show Ext w _ by (repeat (first | (with_reducible exact Ext.refl _) | (with_reducible assumption) | (with_reducible apply Ext.alloc) | (with_reducible apply Ext.drew) | (with_reducible apply Ext.drewN) | ((with_reducible refine Ext.setCell ?_ ?_ _); rotate_left; (focus (first | (simp; done) | (simp; omega) | omega))) | (with_reducible refine Ext.trans ?_ (by assumption))))) hG2 (fun g hg => by have := (Own.lt hown.out g hg).1; omega)); clear hown2 hG2 p0 p1 p2 p3 g0 g1 g2 g3 hg; obtain ⟨⟨p0, p1, p2, p3⟩, ⟨g0, g1, g2, g3⟩, hg⟩ := C4.blk BC2.out)
        go_wp2
        go_roundw
        case rel => exact ⟨m + 1, by omega, by omega, by go_num, ⟨_, _, by rw [wwL_succ]; exact Own.setCell HO2.out (by omega) _ _, by rw [show nflt (m + 1) = nflt m by unfold nflt; omega]; exact Own.setCell HF2.out (by omega) _ _, Lib.hid (by have := BC2.out.set_ 1 (.slice A2 (wwL z m ++ [wwC z m]).length k2); simpa using this)⟩, BR2.out.kept (by omega) _ _, by have hx := HE2.out; (repeat (first | (with_reducible exact Ext.refl _) | (with_reducible assumption) | (with_reducible apply Ext.alloc) | (with_reducible apply Ext.drew) | (with_reducible apply Ext.drewN) | ((with_reducible refine Ext.setCell ?_ ?_ _); rotate_left; (focus (first | (simp; done) | (simp; omega) | omega))) | (with_reducible refine Ext.trans ?_ (by assumption))))⟩
        case measure => simp [intOf]; omega
    · obtain rfl : m = z := by omega
      obtain ⟨A1, k1, rfl, _, _⟩ := Own.rd hown.out Cls.len
      obtain ⟨A4, k4, rfl, _, _⟩ := Own.rd hflt.out Flt.len
      obtain ⟨⟨r0, r1, r2, r3⟩, ⟨f0, f1, f2, f3⟩, hf⟩ := C4.blk hbr.out
      have EX := Lib.hid hx
      clear hx
      go_wp2
      refine bodyPost_ret (v := .tuple #[cfgV wideS (.slice A1 (wwL m m).length k1) (.slice A4 (wfL (nflt m)).length k4) 0, .bool true]) (by simp [results, Try.results11, go_sem, *]) rfl ⟨_, _, rfl, ?_, ?_, ?_⟩
      · refine Own.mono (base := w.heap.size + 2) ?_ (by omega)
        repeat (first | (with_reducible exact hown.out) | (with_reducible refine Own.setCell ?_ (by omega) _ _))
      · refine Own.mono (base := w.heap.size + 2) ?_ (by omega)
        repeat (first | (with_reducible exact hflt.out) | (with_reducible refine Own.setCell ?_ (by omega) _ _))
      · have hx := EX.out
        (repeat (first | (with_reducible exact Ext.refl _) | (with_reducible assumption) | (with_reducible apply Ext.alloc) | (with_reducible apply Ext.drew) | (with_reducible apply Ext.drewN) | ((with_reducible refine Ext.setCell ?_ ?_ _); rotate_left; (focus (first | (simp; done) | (simp; omega) | omega))) | (with_reducible refine Ext.trans ?_ (by assumption))))
theorem spec_l1LeastW_any (a b : Int) (w : World) :
    Calls Try.prog 19 #[.int .i64 a, .int .i64 b] w fun e w' => e = .returned (.int .i64 (min a b)) ∧ w = w' := by
  go_enter Try.func19, Try.ntmps19
  go_wp2
  all_goals (go_ret; refine ⟨?_, rfl⟩; show Ending.returned (Value.int .i64 _) = _; congr 2; omega)
theorem spec_WideWitness_any (a : Int) (w : World) :
    Calls Try.prog 10 #[.int .i64 a] w (RetC (wwR a) w) := by
  cases hin : inR a 2 24
  · have HR := Lib.hid (show wwR a = noCfg by rw [wwR, hin]; rfl)
    have hn := inR_not.1 hin
    rw [HR.out]
    go_enter Try.func10, Try.ntmps10
    go_wp2_with (go_at_call 12; refine (spec_l1In_any _ _ _ _ ).mono ?_; rintro e w' ⟨rfl, rfl⟩)
    refine bodyPost_ret (v := .tuple #[cfgV ⟨#[]⟩ (.slice none 0 0) (.slice none 0 0) 0, .bool false]) (by simp [results, Try.results10, go_sem]) rfl (RetC.no ?_)
    (repeat (first | (with_reducible exact Ext.refl _) | (with_reducible assumption) | (with_reducible apply Ext.alloc) | (with_reducible apply Ext.drew) | (with_reducible apply Ext.drewN) | ((with_reducible refine Ext.setCell ?_ ?_ _); rotate_left; (focus (first | (simp; done) | (simp; omega) | omega))) | (with_reducible refine Ext.trans ?_ (by assumption))))
  obtain ⟨h2, h24⟩ := inR_iff.1 hin
  obtain ⟨z, rfl⟩ := Int.eq_ofNat_of_zero_le (show 0 ≤ a by omega)
  have HR := Lib.hid (show wwR (z : Int) = ⟨wideS, wwL z z, wfL (nflt z), 0, true⟩ by rw [wwR, hin]; simp)
  have hz2 : 2 ≤ z := by omega
  have hz24 : z ≤ 24 := by omega
  rw [HR.out]

  have hx := ((Ext.refl w).alloc (.cells #[.string ⟨#[]⟩, .slice none 0 0, .slice none 0 0, .int .i64 0] 25)).alloc (.cells #[.string wideS, .slice none 0 0, .slice none 0 0, .int .i64 0] 25)
  have hbr := Lib.hid ((Blk.new w 25 #[.string ⟨#[]⟩, .slice none 0 0, .slice none 0 0, .int .i64 0]).ext ((Ext.refl _).alloc (.cells #[.string wideS, .slice none 0 0, .slice none 0 0, .int .i64 0] 25)))
  have hbc := Lib.hid (show Blk ((w.alloc (.cells #[.string ⟨#[]⟩, .slice none 0 0, .slice none 0 0, .int .i64 0] 25)).alloc (.cells #[.string wideS, .slice none 0 0, .slice none 0 0, .int .i64 0] 25)) (w.heap.size + 1) 25 #[.string wideS, .slice none 0 0, .slice none 0 0, .int .i64 0] by
    have := Blk.new (w.alloc (.cells #[.string ⟨#[]⟩, .slice none 0 0, .slice none 0 0, .int .i64 0] 25)) 25 #[.string wideS, .slice none 0 0, .slice none 0 0, .int .i64 0]
    simpa using this)
  have hown := Lib.hid (show OwnC ((w.alloc (.cells #[.string ⟨#[]⟩, .slice none 0 0, .slice none 0 0, .int .i64 0] 25)).alloc (.cells #[.string wideS, .slice none 0 0, .slice none 0 0, .int .i64 0] 25)) (w.heap.size + 2) (.slice none 0 0) (wwL z 0) from World.ownsRow_nil _ _ _ _)
  have hflt := Lib.hid (show OwnF ((w.alloc (.cells #[.string ⟨#[]⟩, .slice none 0 0, .slice none 0 0, .int .i64 0] 25)).alloc (.cells #[.string wideS, .slice none 0 0, .slice none 0 0, .int .i64 0] 25)) (w.heap.size + 2) (.slice none 0 0) (wfL 0) from World.ownsRow_nil _ _ _ _)
  go_enter Try.func10, Try.ntmps10
  go_wp2_with (go_at_call 12; refine (spec_l1In_any _ _ _ _ ).mono ?_; rintro e w' ⟨rfl, rfl⟩)
  go_loopw [5] (fun t wr => ∃ m : Nat, 0 ≤ m ∧ m ≤ z ∧ t = .int .i64 ((m : Int) + 1) ∧ (∃ vc vf, Hid (OwnC wr (w.heap.size + 2) vc (wwL z m)) ∧ Hid (OwnF wr (w.heap.size + 2) vf (wfL 0)) ∧ Hid (Blk wr (w.heap.size + 1) 25 #[.string wideS, vc, vf, .int .i64 0])) ∧ Hid (Blk wr w.heap.size 25 #[.string ⟨#[]⟩, .slice none 0 0, .slice none 0 0, .int .i64 0]) ∧ Ext w wr) (fun t _ => z + 1 - (intOf t).toNat)
  case atStart => exact ⟨0, Nat.le_refl _, by omega, rfl, ⟨_, _, hown.out, hflt.out, hbc.out⟩, hbr.out, hx⟩
  clear hown hflt hbc hbr hx
  case round =>
    obtain ⟨m, hm1, hm, rfl, ⟨vc, vf, hown, hflt, hbc⟩, hbr, hx⟩ := hrel
    obtain ⟨⟨p0, p1, p2, p3⟩, ⟨g0, g1, g2, g3⟩, hg⟩ := C4.blk hbc.out
    by_cases hlt : m < z
    · by_cases hm0 : m = 0
      · subst hm0
        go_wp2_with (at_builtin; refine app_hC (wwC z 0) (bs := w.heap.size + 2) (Own.ext hown.out (by (repeat (first | (with_reducible exact Ext.refl _) | (with_reducible assumption) | (with_reducible apply Ext.alloc) | (with_reducible apply Ext.drew) | (with_reducible apply Ext.drewN) | ((with_reducible refine Ext.setCell ?_ ?_ _); rotate_left; (focus (first | (simp; done) | (simp; omega) | omega))) | (with_reducible refine Ext.trans ?_ (by assumption)))))) (by rw [wwL_len]; omega) (by first | omega | (simp; done) | (simp; omega)) (by simp [Cls.cells, wwC]; try omega) rfl rfl rfl (by first | rfl | (show Value.slice _ _ _ = _; simp; done)) ?_; intro v2 w2 hown2 hG2; obtain ⟨A2, k2, rfl, _, _⟩ := Own.rd hown2 Cls.len; have HO2 := Lib.hid hown2; have BC2 := Lib.hid ((hbc.out.ext (by (repeat (first | (with_reducible exact Ext.refl _) | (with_reducible assumption) | (with_reducible apply Ext.alloc) | (with_reducible apply Ext.drew) | (with_reducible apply Ext.drewN) | ((with_reducible refine Ext.setCell ?_ ?_ _); rotate_left; (focus (first | (simp; done) | (simp; omega) | omega))) | (with_reducible refine Ext.trans ?_ (by assumption)))))).grown hG2 (fun e => by have := (Own.lt hown.out _ e).1; omega)); have BR2 := Lib.hid ((hbr.out.ext (by (repeat (first | (with_reducible exact Ext.refl _) | (with_reducible assumption) | (with_reducible apply Ext.alloc) | (with_reducible apply Ext.drew) | (with_reducible apply Ext.drewN) | ((with_reducible refine Ext.setCell ?_ ?_ _); rotate_left; (focus (first | (simp; done) | (simp; omega) | omega))) | (with_reducible refine Ext.trans ?_ (by assumption)))))).grown hG2 (fun e => by have := (Own.lt hown.out _ e).1; omega)); have HF2 := Lib.hid ((Own.ext hflt.out (by (repeat (first | (with_reducible exact Ext.refl _) | (with_reducible assumption) | (with_reducible apply Ext.alloc) | (with_reducible apply Ext.drew) | (with_reducible apply Ext.drewN) | ((with_reducible refine Ext.setCell ?_ ?_ _); rotate_left; (focus (first | (simp; done) | (simp; omega) | omega))) | (with_reducible refine Ext.trans ?_ (by assumption)))))).kept hG2 (fun g hg => .inr (fun h => Own.apart hflt.out hown.out (by decide) g h hg))); have HE2 := Lib.hid (Ext.grown (show Ext w _ by (repeat (first | (with_reducible exact Ext.refl _) | (with_reducible assumption) | (with_reducible apply Ext.alloc) | (with_reducible apply Ext.drew) | (with_reducible apply Ext.drewN) | ((with_reducible refine Ext.setCell ?_ ?_ _); rotate_left; (focus (first | (simp; done) | (simp; omega) | omega))) | (with_reducible refine Ext.trans ?_ (by assumption))))) hG2 (fun g hg => by have := (Own.lt hown.out g hg).1; omega)); clear hown2 hG2 p0 p1 p2 p3 g0 g1 g2 g3 hg; obtain ⟨⟨p0, p1, p2, p3⟩, ⟨g0, g1, g2, g3⟩, hg⟩ := C4.blk BC2.out)
        go_wp2
        go_roundw
        case rel => exact ⟨0 + 1, by omega, by omega, by go_num, ⟨_, _, by rw [wwL_succ]; exact Own.setCell HO2.out (by omega) _ _, Own.setCell HF2.out (by omega) _ _, Lib.hid (by have := BC2.out.set_ 1 (.slice A2 (wwL z 0 ++ [wwC z 0]).length k2); simpa using this)⟩, BR2.out.kept (by omega) _ _, by have hx := HE2.out; (repeat (first | (with_reducible exact Ext.refl _) | (with_reducible assumption) | (with_reducible apply Ext.alloc) | (with_reducible apply Ext.drew) | (with_reducible apply Ext.drewN) | ((with_reducible refine Ext.setCell ?_ ?_ _); rotate_left; (focus (first | (simp; done) | (simp; omega) | omega))) | (with_reducible refine Ext.trans ?_ (by assumption))))⟩
        case measure => simp [intOf]; omega
      · have hl0 : ¬ (m : Int) + 1 = 1 := by omega
        go_wp2_with (at_builtin; refine app_hC (wwC z m) (bs := w.heap.size + 2) (Own.ext hown.out (by (repeat (first | (with_reducible exact Ext.refl _) | (with_reducible assumption) | (with_reducible apply Ext.alloc) | (with_reducible apply Ext.drew) | (with_reducible apply Ext.drewN) | ((with_reducible refine Ext.setCell ?_ ?_ _); rotate_left; (focus (first | (simp; done) | (simp; omega) | omega))) | (with_reducible refine Ext.trans ?_ (by assumption)))))) (by rw [wwL_len]; omega) (by first | omega | (simp; done) | (simp; omega)) (by simp [Cls.cells, wwC, hm0]; try omega) rfl rfl rfl (by first | rfl | (show Value.slice _ _ _ = _; simp; done)) ?_; intro v2 w2 hown2 hG2; obtain ⟨A2, k2, rfl, _, _⟩ := Own.rd hown2 Cls.len; have HO2 := Lib.hid hown2; have BC2 := Lib.hid ((hbc.out.ext (by (repeat (first | (with_reducible exact Ext.refl _) | (with_reducible assumption) | (with_reducible apply Ext.alloc) | (with_reducible apply Ext.drew) | (with_reducible apply Ext.drewN) | ((with_reducible refine Ext.setCell ?_ ?_ _); rotate_left; (focus (first | (simp; done) | (simp; omega) | omega))) | (with_reducible refine Ext.trans ?_ (by assumption)))))).grown hG2 (fun e => by have := (Own.lt hown.out _ e).1; omega)); have BR2 := Lib.hid ((hbr.out.ext (by (repeat (first | (with_reducible exact Ext.refl _) | (with_reducible assumption) | (with_reducible apply Ext.alloc) | (with_reducible apply Ext.drew) | (with_reducible apply Ext.drewN) | ((with_reducible refine Ext.setCell ?_ ?_ _); rotate_left; (focus (first | (simp; done) | (simp; omega) | omega))) | (with_reducible refine Ext.trans ?_ (by assumption)))))).grown hG2 (fun e => by have := (Own.lt hown.out _ e).1; omega)); have HF2 := Lib.hid ((Own.ext hflt.out (by (repeat (first | (with_reducible exact Ext.refl _) | (with_reducible assumption) | (with_reducible apply Ext.alloc) | (with_reducible apply Ext.drew) | (with_reducible apply Ext.drewN) | ((with_reducible refine Ext.setCell ?_ ?_ _); rotate_left; (focus (first | (simp; done) | (simp; omega) | omega))) | (with_reducible refine Ext.trans ?_ (by assumption)))))).kept hG2 (fun g hg => .inr (fun h => Own.apart hflt.out hown.out (by decide) g h hg))); have HE2 := Lib.hid (Ext.grown (show Ext w _ by (repeat (first | (with_reducible exact Ext.refl _) | (with_reducible assumption) | (with_reducible apply Ext.alloc) | (with_reducible apply Ext.drew) | (with_reducible apply Ext.drewN) | ((with_reducible refine Ext.setCell ?_ ?_ _); rotate_left; (focus (first | (simp; done) | (simp; omega) | omega))) | (with_reducible refine Ext.trans ?_ (by assumption))))) hG2 (fun g hg => by have := (Own.lt hown.out g hg).1; omega)); clear hown2 hG2 p0 p1 p2 p3 g0 g1 g2 g3 hg; obtain ⟨⟨p0, p1, p2, p3⟩, ⟨g0, g1, g2, g3⟩, hg⟩ := C4.blk BC2.out)
        go_wp2
        go_roundw
        case rel => exact ⟨m + 1, by omega, by omega, by go_num, ⟨_, _, by rw [wwL_succ]; exact Own.setCell HO2.out (by omega) _ _, Own.setCell HF2.out (by omega) _ _, Lib.hid (by have := BC2.out.set_ 1 (.slice A2 (wwL z m ++ [wwC z m]).length k2); simpa using this)⟩, BR2.out.kept (by omega) _ _, by have hx := HE2.out; (repeat (first | (with_reducible exact Ext.refl _) | (with_reducible assumption) | (with_reducible apply Ext.alloc) | (with_reducible apply Ext.drew) | (with_reducible apply Ext.drewN) | ((with_reducible refine Ext.setCell ?_ ?_ _); rotate_left; (focus (first | (simp; done) | (simp; omega) | omega))) | (with_reducible refine Ext.trans ?_ (by assumption))))⟩
        case measure => simp [intOf]; omega
    · obtain rfl : m = z := by omega
      have hmin : min (m : Int) 17 = (nflt m : Int) + 1 := by unfold nflt; omega
      have HMIN := Lib.hid hmin
      clear hmin
      go_wp2
      clear p0 p1 p2 p3 g0 g1 g2 g3 hg
      go_loopw [7] (fun t wr => ∃ k : Nat, k ≤ nflt m ∧ t = .int .i64 ((k : Int) + 2) ∧ (∃ vc vf, Hid (OwnC wr (w.heap.size + 2) vc (wwL m m)) ∧ Hid (OwnF wr (w.heap.size + 2) vf (wfL k)) ∧ Hid (Blk wr (w.heap.size + 1) 25 #[.string wideS, vc, vf, .int .i64 0])) ∧ Hid (Blk wr w.heap.size 25 #[.string ⟨#[]⟩, .slice none 0 0, .slice none 0 0, .int .i64 0]) ∧ Ext w wr) (fun t _ => nflt m + 2 - (intOf t).toNat)
      case atStart => exact ⟨0, Nat.zero_le _, by go_num, ⟨_, _, hown.out, hflt.out, hbc.out⟩, hbr.out, hx⟩
      clear hown hflt hbc hbr hx
      case round =>
        obtain ⟨k, hk, rfl, ⟨vc, vf, hown, hflt, hbc⟩, hbr, hx⟩ := hrel
        obtain ⟨⟨p0, p1, p2, p3⟩, ⟨g0, g1, g2, g3⟩, hg⟩ := C4.blk hbc.out
        have hn16 : nflt m ≤ 16 := by unfold nflt; omega
        go_wp2_with fail
        refine (spec_l1LeastW_any _ _ _).mono ?_
        rintro e w9 ⟨rfl, rfl⟩
        rw [HMIN.out]
        by_cases hkn : k < nflt m
        · go_wp2_with (at_builtin; refine app_hF (wwF k) (bs := w.heap.size + 2) (Own.ext hflt.out (by (repeat (first | (with_reducible exact Ext.refl _) | (with_reducible assumption) | (with_reducible apply Ext.alloc) | (with_reducible apply Ext.drew) | (with_reducible apply Ext.drewN) | ((with_reducible refine Ext.setCell ?_ ?_ _); rotate_left; (focus (first | (simp; done) | (simp; omega) | omega))) | (with_reducible refine Ext.trans ?_ (by assumption)))))) (by rw [wfL_len]; omega) (by first | omega | (simp; done) | (simp; omega)) (by simp [Flt.cells, wwF]; try omega) rfl rfl rfl (by first | rfl | (show Value.slice _ _ _ = _; simp; done)) ?_; intro v2 w2 hown2 hG2; obtain ⟨A2, k2, rfl, _, _⟩ := Own.rd hown2 Flt.len; have HF2 := Lib.hid hown2; have BC2 := Lib.hid ((hbc.out.ext (by (repeat (first | (with_reducible exact Ext.refl _) | (with_reducible assumption) | (with_reducible apply Ext.alloc) | (with_reducible apply Ext.drew) | (with_reducible apply Ext.drewN) | ((with_reducible refine Ext.setCell ?_ ?_ _); rotate_left; (focus (first | (simp; done) | (simp; omega) | omega))) | (with_reducible refine Ext.trans ?_ (by assumption)))))).grown hG2 (fun e => by have := (Own.lt hflt.out _ e).1; omega)); have BR2 := Lib.hid ((hbr.out.ext (by (repeat (first | (with_reducible exact Ext.refl _) | (with_reducible assumption) | (with_reducible apply Ext.alloc) | (with_reducible apply Ext.drew) | (with_reducible apply Ext.drewN) | ((with_reducible refine Ext.setCell ?_ ?_ _); rotate_left; (focus (first | (simp; done) | (simp; omega) | omega))) | (with_reducible refine Ext.trans ?_ (by assumption)))))).grown hG2 (fun e => by have := (Own.lt hflt.out _ e).1; omega)); have HO2 := Lib.hid ((Own.ext hown.out (by (repeat (first | (with_reducible exact Ext.refl _) | (with_reducible assumption) | (with_reducible apply Ext.alloc) | (with_reducible apply Ext.drew) | (with_reducible apply Ext.drewN) | ((with_reducible refine Ext.setCell ?_ ?_ _); rotate_left; (focus (first | (simp; done) | (simp; omega) | omega))) | (with_reducible refine Ext.trans ?_ (by assumption)))))).kept hG2 (fun g hg => .inr (fun h => Own.apart hown.out hflt.out (by decide) g h hg))); have HE2 := Lib.hid (Ext.grown (show Ext w _ by (repeat (first | (with_reducible exact Ext.refl _) | (with_reducible assumption) | (with_reducible apply Ext.alloc) | (with_reducible apply Ext.drew) | (with_reducible apply Ext.drewN) | ((with_reducible refine Ext.setCell ?_ ?_ _); rotate_left; (focus (first | (simp; done) | (simp; omega) | omega))) | (with_reducible refine Ext.trans ?_ (by assumption))))) hG2 (fun g hg => by have := (Own.lt hflt.out g hg).1; omega)); clear hown2 hG2 p0 p1 p2 p3 g0 g1 g2 g3 hg; obtain ⟨⟨p0, p1, p2, p3⟩, ⟨g0, g1, g2, g3⟩, hg⟩ := C4.blk BC2.out)
          go_wp2
          go_roundw
          case rel => exact ⟨k + 1, by omega, by go_num, ⟨_, _, Own.setCell HO2.out (by omega) _ _, by rw [wfL_succ]; exact Own.setCell HF2.out (by omega) _ _, Lib.hid (by have := BC2.out.set_ 2 (.slice A2 (wfL k ++ [wwF k]).length k2); simpa using this)⟩, BR2.out.kept (by omega) _ _, by have hx := HE2.out; (repeat (first | (with_reducible exact Ext.refl _) | (with_reducible assumption) | (with_reducible apply Ext.alloc) | (with_reducible apply Ext.drew) | (with_reducible apply Ext.drewN) | ((with_reducible refine Ext.setCell ?_ ?_ _); rotate_left; (focus (first | (simp; done) | (simp; omega) | omega))) | (with_reducible refine Ext.trans ?_ (by assumption))))⟩
          case measure => simp [intOf]; omega
        · have HKN := Lib.hid (show k = nflt m by omega)
          have hkn2 : ¬ (k : Int) + 2 ≤ (nflt m : Int) + 1 := by omega
          obtain ⟨A1, k1, rfl, _, _⟩ := Own.rd hown.out Cls.len
          obtain ⟨A4, k4, rfl, _, _⟩ := Own.rd hflt.out Flt.len
          obtain ⟨⟨r0, r1, r2, r3⟩, ⟨f0, f1, f2, f3⟩, hf⟩ := C4.blk hbr.out
          have EX := Lib.hid hx
          clear hx
          go_wp2
          refine bodyPost_ret (v := .tuple #[cfgV wideS (.slice A1 (wwL m m).length k1) (.slice A4 (wfL k).length k4) 0, .bool true]) (by simp [results, Try.results10, go_sem, *]) rfl ⟨_, _, rfl, ?_, ?_, ?_⟩
          · refine Own.mono (base := w.heap.size + 2) ?_ (by omega)
            repeat (first | (with_reducible exact hown.out) | (with_reducible refine Own.setCell ?_ (by omega) _ _))
          · rw [← HKN.out]
            refine Own.mono (base := w.heap.size + 2) ?_ (by omega)
            repeat (first | (with_reducible exact hflt.out) | (with_reducible refine Own.setCell ?_ (by omega) _ _))
          · have hx := EX.out
            (repeat (first | (with_reducible exact Ext.refl _) | (with_reducible assumption) | (with_reducible apply Ext.alloc) | (with_reducible apply Ext.drew) | (with_reducible apply Ext.drewN) | ((with_reducible refine Ext.setCell ?_ ?_ _); rotate_left; (focus (first | (simp; done) | (simp; omega) | omega))) | (with_reducible refine Ext.trans ?_ (by assumption))))
end Go.Proofs.Ytnamgkiealfffaa
