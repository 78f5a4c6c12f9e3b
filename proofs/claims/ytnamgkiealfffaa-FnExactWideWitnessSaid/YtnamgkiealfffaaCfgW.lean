/- WitnessOf, WideWitness: contracts of both sides. Printed by wip/tools/gen_cfgw.py. -/
import Derived.Test.YtnamgkiealfffaaRowG
import Derived.Test.YtnamgkiealfffaaNum
namespace Go.Proofs.Ytnamgkiealfffaa
open Go.RowKit
set_option maxRecDepth 20000
set_option maxHeartbeats 1000000
set_option linter.unusedSimpArgs false
set_option linter.unusedVariables false

abbrev deepS : ByteArray := ⟨#[100, 101, 101, 112]⟩
abbrev wideS : ByteArray := ⟨#[119, 105, 100, 101]⟩
def wcls (depth : Int) (k : Nat) : Cls := ⟨(k : Int) + 1, k, 100 * (depth - k), 100 * (depth - k), 1500, 1500, 0, if (k : Int) + 1 = depth then 1 else 0⟩
def wofL (depth : Int) (m : Nat) : List Cls := (List.range m).map (wcls depth)
theorem wofL_len (depth : Int) (m : Nat) : (wofL depth m).length = m := by simp [wofL]
theorem wofL_succ (depth : Int) (m : Nat) : wofL depth (m + 1) = wofL depth m ++ [wcls depth m] := by simp [wofL, List.range_succ]
def wofR (depth : Int) : CfgR := if inR depth 1 8 then ⟨deepS, wofL depth depth.toNat, [], depth, true⟩ else noCfg
theorem wofR_len (depth : Int) : (wofR depth).cls.length ≤ 2000000 ∧ (wofR depth).flt.length ≤ 2000000 := by
  unfold wofR
  split
  · rename_i h
    have := inR_iff.1 h
    simp [wofL_len]
    omega
  · simp [noCfg]
theorem app_hC {ops : Array Oper} {rest : List Oper} {o : Oper} {a : Act} {Q : Exit → Act → World → Prop} {wr : World} {v : Value} {l : List Cls} {ys : List Value} {bs : Nat} {s x : Operand} (y : Cls) (hown : OwnC wr bs v l) (hn : l.length ≤ 10000000) (hE : bs ≤ wr.heap.size) (hy : ys = y.cells)
    (hgd : o.guard = none) (ho : o.op = .call { callee := .builtin .append, args := #[s, x], argTypes := #[22, 22] })
    (hs : a.eval s = v) (hx : a.eval x = .slice (some ⟨wr.heap.size, 0, none⟩) 1 1)
    (h : ∀ v' w', OwnC w' bs v' (l ++ [y]) → (wr.alloc (.cells ys.toArray 33)).grownBy w' v.ownBlock → wpList Try.prog ops Q rest (a.put o.dst v') w') : wpList Try.prog ops Q (o :: rest) a (wr.alloc (.cells ys.toArray 33)) := by
  obtain ⟨i0, ii0, ii1, ii2, ii3⟩ := info_parts info_Class
  exact own_appg Try.underlying22 ii0 ii1 ii2 ii3 rfl (by omega) (by omega) Cls.len cls_one bs wr hgd s x ho v l y ys hy hs hx hown hn hE h
theorem app_hF {ops : Array Oper} {rest : List Oper} {o : Oper} {a : Act} {Q : Exit → Act → World → Prop} {wr : World} {v : Value} {l : List Flt} {ys : List Value} {bs : Nat} {s x : Operand} (y : Flt) (hown : OwnF wr bs v l) (hn : l.length ≤ 10000000) (hE : bs ≤ wr.heap.size) (hy : ys = y.cells)
    (hgd : o.guard = none) (ho : o.op = .call { callee := .builtin .append, args := #[s, x], argTypes := #[23, 23] })
    (hs : a.eval s = v) (hx : a.eval x = .slice (some ⟨wr.heap.size, 0, none⟩) 1 1)
    (h : ∀ v' w', OwnF w' bs v' (l ++ [y]) → (wr.alloc (.cells ys.toArray 40)).grownBy w' v.ownBlock → wpList Try.prog ops Q rest (a.put o.dst v') w') : wpList Try.prog ops Q (o :: rest) a (wr.alloc (.cells ys.toArray 40)) := by
  obtain ⟨i0, ii0, ii1, ii2, ii3⟩ := info_parts info_Filter5
  exact own_appg Try.underlying23 ii0 ii1 ii2 ii3 rfl (by omega) (by omega) Flt.len flt_one bs wr hgd s x ho v l y ys hy hs hx hown hn hE h
theorem impl_WitnessOf_any (a : Int) (w : World) :
    Calls Try.prog 6 #[.int .i64 a] w (RetC (wofR a) w) := by
  cases hin : inR a 1 8
  · have HR := Lib.hid (show wofR a = noCfg by rw [wofR, hin]; rfl)
    have hn := inR_not.1 hin
    rw [HR.out]
    by_cases ha : a < 1
    all_goals (try (have ha8 : 8 < a := by omega))
    all_goals
      go_enter Try.func6, Try.ntmps6
      go_wp2
      refine bodyPost_ret (v := .tuple #[cfgV ⟨#[]⟩ (.slice none 0 0) (.slice none 0 0) 0, .bool false]) (by simp [results, Try.results6, go_sem]) rfl (RetC.no ?_)
      (repeat (first | (with_reducible exact Ext.refl _) | (with_reducible assumption) | (with_reducible apply Ext.alloc) | (with_reducible apply Ext.drew) | (with_reducible apply Ext.drewN) | ((with_reducible refine Ext.setCell ?_ ?_ _); rotate_left; (focus (first | (simp; done) | (simp; omega) | omega))) | (with_reducible refine Ext.trans ?_ (by assumption))))
  obtain ⟨h1, h8⟩ := inR_iff.1 hin
  obtain ⟨z, rfl⟩ := Int.eq_ofNat_of_zero_le (show 0 ≤ a by omega)
  have HR := Lib.hid (show wofR (z : Int) = ⟨deepS, wofL z z, [], z, true⟩ by rw [wofR, hin]; simp)
  have hz8 : z ≤ 8 := by omega
  rw [HR.out]
  clear hin
  have D0 := ((Ext.refl w).alloc (.cells #[.string ⟨#[]⟩, .slice none 0 0, .slice none 0 0, .int .i64 0] 25)).alloc (.cells #[.string deepS, .slice none 0 0, .slice none 0 0, .int .i64 (z : Int)] 25)
  have BR := Lib.hid ((Blk.new w 25 #[.string ⟨#[]⟩, .slice none 0 0, .slice none 0 0, .int .i64 0]).ext ((Ext.refl _).alloc (.cells #[.string deepS, .slice none 0 0, .slice none 0 0, .int .i64 (z : Int)] 25)))
  have BC := Lib.hid (show Blk ((w.alloc (.cells #[.string ⟨#[]⟩, .slice none 0 0, .slice none 0 0, .int .i64 0] 25)).alloc (.cells #[.string deepS, .slice none 0 0, .slice none 0 0, .int .i64 (z : Int)] 25)) (w.heap.size + 1) 25 #[.string deepS, .slice none 0 0, .slice none 0 0, .int .i64 (z : Int)] by
    have := Blk.new (w.alloc (.cells #[.string ⟨#[]⟩, .slice none 0 0, .slice none 0 0, .int .i64 0] 25)) 25 #[.string deepS, .slice none 0 0, .slice none 0 0, .int .i64 (z : Int)]
    simpa using this)
  have HST := Lib.hid (show OwnC ((w.alloc (.cells #[.string ⟨#[]⟩, .slice none 0 0, .slice none 0 0, .int .i64 0] 25)).alloc (.cells #[.string deepS, .slice none 0 0, .slice none 0 0, .int .i64 (z : Int)] 25)) (w.heap.size + 2) (.slice none 0 0) (wofL z 0) from World.ownsRow_nil _ _ _ _)
  go_enter Try.func6, Try.ntmps6
  go_wp2
  go_loopw [5] (fun t wr => ∃ m : Nat, m ≤ z ∧ t = .int .i64 ((m : Int) + 1) ∧ (∃ v, Hid (OwnC wr (w.heap.size + 2) v (wofL z m)) ∧ Hid (Blk wr (w.heap.size + 1) 25 #[.string deepS, v, .slice none 0 0, .int .i64 (z : Int)])) ∧ Hid (Blk wr w.heap.size 25 #[.string ⟨#[]⟩, .slice none 0 0, .slice none 0 0, .int .i64 0]) ∧ Ext w wr) (fun t _ => z + 1 - (intOf t).toNat)
  case atStart => exact ⟨0, Nat.zero_le _, rfl, ⟨_, HST.out, BC.out⟩, BR.out, D0⟩
  case round =>
    obtain ⟨m, hm, rfl, ⟨v, hown, hbc⟩, hbr, hx⟩ := hrel
    obtain ⟨⟨p0, p1, p2, p3⟩, ⟨g0, g1, g2, g3⟩, hg⟩ := C4.blk hbc.out
    by_cases hlt : m < z
    · by_cases hl : m + 1 = z
      · have hl0 : (m : Int) + 1 = z := by omega
        go_wp2_with (at_builtin; refine app_hC (wcls z m) (bs := w.heap.size + 2) (Own.ext hown.out (by (repeat (first | (with_reducible exact Ext.refl _) | (with_reducible assumption) | (with_reducible apply Ext.alloc) | (with_reducible apply Ext.drew) | (with_reducible apply Ext.drewN) | ((with_reducible refine Ext.setCell ?_ ?_ _); rotate_left; (focus (first | (simp; done) | (simp; omega) | omega))) | (with_reducible refine Ext.trans ?_ (by assumption)))))) (by rw [wofL_len]; omega) (by simp; omega) (by simp [Cls.cells, wcls, hl0]; try omega) rfl rfl rfl (by show Value.slice _ _ _ = _; simp) ?_; intro v2 w2 hown2 hG2; obtain ⟨A2, k2, rfl, _, _⟩ := Own.rd hown2 Cls.len; have HO2 := Lib.hid hown2; have BC2 := Lib.hid ((hbc.out.ext (by (repeat (first | (with_reducible exact Ext.refl _) | (with_reducible assumption) | (with_reducible apply Ext.alloc) | (with_reducible apply Ext.drew) | (with_reducible apply Ext.drewN) | ((with_reducible refine Ext.setCell ?_ ?_ _); rotate_left; (focus (first | (simp; done) | (simp; omega) | omega))) | (with_reducible refine Ext.trans ?_ (by assumption)))))).grown hG2 (fun e => by have := (Own.lt hown.out _ e).1; omega)); have BR2 := Lib.hid ((hbr.out.ext (by (repeat (first | (with_reducible exact Ext.refl _) | (with_reducible assumption) | (with_reducible apply Ext.alloc) | (with_reducible apply Ext.drew) | (with_reducible apply Ext.drewN) | ((with_reducible refine Ext.setCell ?_ ?_ _); rotate_left; (focus (first | (simp; done) | (simp; omega) | omega))) | (with_reducible refine Ext.trans ?_ (by assumption)))))).grown hG2 (fun e => by have := (Own.lt hown.out _ e).1; omega)); have HE2 := Lib.hid (Ext.grown (show Ext w _ by (repeat (first | (with_reducible exact Ext.refl _) | (with_reducible assumption) | (with_reducible apply Ext.alloc) | (with_reducible apply Ext.drew) | (with_reducible apply Ext.drewN) | ((with_reducible refine Ext.setCell ?_ ?_ _); rotate_left; (focus (first | (simp; done) | (simp; omega) | omega))) | (with_reducible refine Ext.trans ?_ (by assumption))))) hG2 (fun g hg => by have := (Own.lt hown.out g hg).1; omega)); clear hown2 hG2 p0 p1 p2 p3 g0 g1 g2 g3 hg; obtain ⟨⟨p0, p1, p2, p3⟩, ⟨g0, g1, g2, g3⟩, hg⟩ := C4.blk BC2.out)
        go_wp2
        go_roundw
        case rel => exact ⟨m + 1, by omega, by go_num, ⟨_, by rw [wofL_succ]; exact Own.setCell HO2.out (by omega) _ _, Lib.hid (by have := BC2.out.set_ 1 (.slice A2 (wofL z m ++ [wcls z m]).length k2); simpa using this)⟩, BR2.out.kept (by omega) _ _, by have hx := HE2.out; (repeat (first | (with_reducible exact Ext.refl _) | (with_reducible assumption) | (with_reducible apply Ext.alloc) | (with_reducible apply Ext.drew) | (with_reducible apply Ext.drewN) | ((with_reducible refine Ext.setCell ?_ ?_ _); rotate_left; (focus (first | (simp; done) | (simp; omega) | omega))) | (with_reducible refine Ext.trans ?_ (by assumption))))⟩
        case measure => simp [intOf]; omega
      · have hl0 : ¬ (m : Int) + 1 = z := by omega
        go_wp2_with (at_builtin; refine app_hC (wcls z m) (bs := w.heap.size + 2) (Own.ext hown.out (by (repeat (first | (with_reducible exact Ext.refl _) | (with_reducible assumption) | (with_reducible apply Ext.alloc) | (with_reducible apply Ext.drew) | (with_reducible apply Ext.drewN) | ((with_reducible refine Ext.setCell ?_ ?_ _); rotate_left; (focus (first | (simp; done) | (simp; omega) | omega))) | (with_reducible refine Ext.trans ?_ (by assumption)))))) (by rw [wofL_len]; omega) (by simp; omega) (by simp [Cls.cells, wcls, hl0]; try omega) rfl rfl rfl (by show Value.slice _ _ _ = _; simp) ?_; intro v2 w2 hown2 hG2; obtain ⟨A2, k2, rfl, _, _⟩ := Own.rd hown2 Cls.len; have HO2 := Lib.hid hown2; have BC2 := Lib.hid ((hbc.out.ext (by (repeat (first | (with_reducible exact Ext.refl _) | (with_reducible assumption) | (with_reducible apply Ext.alloc) | (with_reducible apply Ext.drew) | (with_reducible apply Ext.drewN) | ((with_reducible refine Ext.setCell ?_ ?_ _); rotate_left; (focus (first | (simp; done) | (simp; omega) | omega))) | (with_reducible refine Ext.trans ?_ (by assumption)))))).grown hG2 (fun e => by have := (Own.lt hown.out _ e).1; omega)); have BR2 := Lib.hid ((hbr.out.ext (by (repeat (first | (with_reducible exact Ext.refl _) | (with_reducible assumption) | (with_reducible apply Ext.alloc) | (with_reducible apply Ext.drew) | (with_reducible apply Ext.drewN) | ((with_reducible refine Ext.setCell ?_ ?_ _); rotate_left; (focus (first | (simp; done) | (simp; omega) | omega))) | (with_reducible refine Ext.trans ?_ (by assumption)))))).grown hG2 (fun e => by have := (Own.lt hown.out _ e).1; omega)); have HE2 := Lib.hid (Ext.grown (show Ext w _ by (repeat (first | (with_reducible exact Ext.refl _) | (with_reducible assumption) | (with_reducible apply Ext.alloc) | (with_reducible apply Ext.drew) | (with_reducible apply Ext.drewN) | ((with_reducible refine Ext.setCell ?_ ?_ _); rotate_left; (focus (first | (simp; done) | (simp; omega) | omega))) | (with_reducible refine Ext.trans ?_ (by assumption))))) hG2 (fun g hg => by have := (Own.lt hown.out g hg).1; omega)); clear hown2 hG2 p0 p1 p2 p3 g0 g1 g2 g3 hg; obtain ⟨⟨p0, p1, p2, p3⟩, ⟨g0, g1, g2, g3⟩, hg⟩ := C4.blk BC2.out)
        go_wp2
        go_roundw
        case rel => exact ⟨m + 1, by omega, by go_num, ⟨_, by rw [wofL_succ]; exact Own.setCell HO2.out (by omega) _ _, Lib.hid (by have := BC2.out.set_ 1 (.slice A2 (wofL z m ++ [wcls z m]).length k2); simpa using this)⟩, BR2.out.kept (by omega) _ _, by have hx := HE2.out; (repeat (first | (with_reducible exact Ext.refl _) | (with_reducible assumption) | (with_reducible apply Ext.alloc) | (with_reducible apply Ext.drew) | (with_reducible apply Ext.drewN) | ((with_reducible refine Ext.setCell ?_ ?_ _); rotate_left; (focus (first | (simp; done) | (simp; omega) | omega))) | (with_reducible refine Ext.trans ?_ (by assumption))))⟩
        case measure => simp [intOf]; omega
    · obtain rfl : m = z := by omega
      obtain ⟨A1, k1, rfl, _, _⟩ := Own.rd hown.out Cls.len
      obtain ⟨⟨r0, r1, r2, r3⟩, ⟨f0, f1, f2, f3⟩, hf⟩ := C4.blk hbr.out
      have EX := Lib.hid hx
      clear hx
      go_wp2
      refine bodyPost_ret (v := .tuple #[cfgV deepS (.slice A1 (wofL m m).length k1) (.slice none 0 0) m, .bool true]) (by simp [results, Try.results6, go_sem, *]) rfl ⟨_, _, rfl, ?_, World.ownsRow_nil _ _ _ _, ?_⟩
      · refine Own.mono (base := w.heap.size + 2) ?_ (by omega)
        repeat (first | (with_reducible exact hown.out) | (with_reducible refine Own.setCell ?_ (by omega) _ _))
      · have hx := EX.out
        (repeat (first | (with_reducible exact Ext.refl _) | (with_reducible assumption) | (with_reducible apply Ext.alloc) | (with_reducible apply Ext.drew) | (with_reducible apply Ext.drewN) | ((with_reducible refine Ext.setCell ?_ ?_ _); rotate_left; (focus (first | (simp; done) | (simp; omega) | omega))) | (with_reducible refine Ext.trans ?_ (by assumption))))
theorem spec_WitnessOf_any (a : Int) (w : World) :
    Calls Try.prog 5 #[.int .i64 a] w (RetC (wofR a) w) := by
  cases hin : inR a 1 8
  · have HR := Lib.hid (show wofR a = noCfg by rw [wofR, hin]; rfl)
    have hn := inR_not.1 hin
    rw [HR.out]
    go_enter Try.func5, Try.ntmps5
    go_wp2_with (go_at_call 12; refine (spec_l1In_any _ _ _ _ ).mono ?_; rintro e w' ⟨rfl, rfl⟩)
    refine bodyPost_ret (v := .tuple #[cfgV ⟨#[]⟩ (.slice none 0 0) (.slice none 0 0) 0, .bool false]) (by simp [results, Try.results5, go_sem]) rfl (RetC.no ?_)
    (repeat (first | (with_reducible exact Ext.refl _) | (with_reducible assumption) | (with_reducible apply Ext.alloc) | (with_reducible apply Ext.drew) | (with_reducible apply Ext.drewN) | ((with_reducible refine Ext.setCell ?_ ?_ _); rotate_left; (focus (first | (simp; done) | (simp; omega) | omega))) | (with_reducible refine Ext.trans ?_ (by assumption))))
  obtain ⟨h1, h8⟩ := inR_iff.1 hin
  obtain ⟨z, rfl⟩ := Int.eq_ofNat_of_zero_le (show 0 ≤ a by omega)
  have HR := Lib.hid (show wofR (z : Int) = ⟨deepS, wofL z z, [], z, true⟩ by rw [wofR, hin]; simp)
  have hz8 : z ≤ 8 := by omega
  rw [HR.out]

  have D0 := ((Ext.refl w).alloc (.cells #[.string ⟨#[]⟩, .slice none 0 0, .slice none 0 0, .int .i64 0] 25)).alloc (.cells #[.string deepS, .slice none 0 0, .slice none 0 0, .int .i64 (z : Int)] 25)
  have BR := Lib.hid ((Blk.new w 25 #[.string ⟨#[]⟩, .slice none 0 0, .slice none 0 0, .int .i64 0]).ext ((Ext.refl _).alloc (.cells #[.string deepS, .slice none 0 0, .slice none 0 0, .int .i64 (z : Int)] 25)))
  have BC := Lib.hid (show Blk ((w.alloc (.cells #[.string ⟨#[]⟩, .slice none 0 0, .slice none 0 0, .int .i64 0] 25)).alloc (.cells #[.string deepS, .slice none 0 0, .slice none 0 0, .int .i64 (z : Int)] 25)) (w.heap.size + 1) 25 #[.string deepS, .slice none 0 0, .slice none 0 0, .int .i64 (z : Int)] by
    have := Blk.new (w.alloc (.cells #[.string ⟨#[]⟩, .slice none 0 0, .slice none 0 0, .int .i64 0] 25)) 25 #[.string deepS, .slice none 0 0, .slice none 0 0, .int .i64 (z : Int)]
    simpa using this)
  have HST := Lib.hid (show OwnC ((w.alloc (.cells #[.string ⟨#[]⟩, .slice none 0 0, .slice none 0 0, .int .i64 0] 25)).alloc (.cells #[.string deepS, .slice none 0 0, .slice none 0 0, .int .i64 (z : Int)] 25)) (w.heap.size + 2) (.slice none 0 0) (wofL z 0) from World.ownsRow_nil _ _ _ _)
  go_enter Try.func5, Try.ntmps5
  go_wp2_with (go_at_call 12; refine (spec_l1In_any _ _ _ _ ).mono ?_; rintro e w' ⟨rfl, rfl⟩)
  go_loopw [5] (fun t wr => ∃ m : Nat, m ≤ z ∧ t = .int .i64 ((m : Int) + 1) ∧ (∃ v, Hid (OwnC wr (w.heap.size + 2) v (wofL z m)) ∧ Hid (Blk wr (w.heap.size + 1) 25 #[.string deepS, v, .slice none 0 0, .int .i64 (z : Int)])) ∧ Hid (Blk wr w.heap.size 25 #[.string ⟨#[]⟩, .slice none 0 0, .slice none 0 0, .int .i64 0]) ∧ Ext w wr) (fun t _ => z + 1 - (intOf t).toNat)
  case atStart => exact ⟨0, Nat.zero_le _, rfl, ⟨_, HST.out, BC.out⟩, BR.out, D0⟩
  case round =>
    obtain ⟨m, hm, rfl, ⟨v, hown, hbc⟩, hbr, hx⟩ := hrel
    obtain ⟨⟨p0, p1, p2, p3⟩, ⟨g0, g1, g2, g3⟩, hg⟩ := C4.blk hbc.out
    by_cases hlt : m < z
    · by_cases hl : m + 1 = z
      · have hl0 : (m : Int) + 1 = z := by omega
        go_wp2_with (at_builtin; refine app_hC (wcls z m) (bs := w.heap.size + 2) (Own.ext hown.out (by (repeat (first | (with_reducible exact Ext.refl _) | (with_reducible assumption) | (with_reducible apply Ext.alloc) | (with_reducible apply Ext.drew) | (with_reducible apply Ext.drewN) | ((with_reducible refine Ext.setCell ?_ ?_ _); rotate_left; (focus (first | (simp; done) | (simp; omega) | omega))) | (with_reducible refine Ext.trans ?_ (by assumption)))))) (by rw [wofL_len]; omega) (by simp; omega) (by simp [Cls.cells, wcls, hl0]; try omega) rfl rfl rfl (by show Value.slice _ _ _ = _; simp) ?_; intro v2 w2 hown2 hG2; obtain ⟨A2, k2, rfl, _, _⟩ := Own.rd hown2 Cls.len; have HO2 := Lib.hid hown2; have BC2 := Lib.hid ((hbc.out.ext (by (repeat (first | (with_reducible exact Ext.refl _) | (with_reducible assumption) | (with_reducible apply Ext.alloc) | (with_reducible apply Ext.drew) | (with_reducible apply Ext.drewN) | ((with_reducible refine Ext.setCell ?_ ?_ _); rotate_left; (focus (first | (simp; done) | (simp; omega) | omega))) | (with_reducible refine Ext.trans ?_ (by assumption)))))).grown hG2 (fun e => by have := (Own.lt hown.out _ e).1; omega)); have BR2 := Lib.hid ((hbr.out.ext (by (repeat (first | (with_reducible exact Ext.refl _) | (with_reducible assumption) | (with_reducible apply Ext.alloc) | (with_reducible apply Ext.drew) | (with_reducible apply Ext.drewN) | ((with_reducible refine Ext.setCell ?_ ?_ _); rotate_left; (focus (first | (simp; done) | (simp; omega) | omega))) | (with_reducible refine Ext.trans ?_ (by assumption)))))).grown hG2 (fun e => by have := (Own.lt hown.out _ e).1; omega)); have HE2 := Lib.hid (Ext.grown (show Ext w _ by (repeat (first | (with_reducible exact Ext.refl _) | (with_reducible assumption) | (with_reducible apply Ext.alloc) | (with_reducible apply Ext.drew) | (with_reducible apply Ext.drewN) | ((with_reducible refine Ext.setCell ?_ ?_ _); rotate_left; (focus (first | (simp; done) | (simp; omega) | omega))) | (with_reducible refine Ext.trans ?_ (by assumption))))) hG2 (fun g hg => by have := (Own.lt hown.out g hg).1; omega)); clear hown2 hG2 p0 p1 p2 p3 g0 g1 g2 g3 hg; obtain ⟨⟨p0, p1, p2, p3⟩, ⟨g0, g1, g2, g3⟩, hg⟩ := C4.blk BC2.out)
        go_wp2
        go_roundw
        case rel => exact ⟨m + 1, by omega, by go_num, ⟨_, by rw [wofL_succ]; exact Own.setCell HO2.out (by omega) _ _, Lib.hid (by have := BC2.out.set_ 1 (.slice A2 (wofL z m ++ [wcls z m]).length k2); simpa using this)⟩, BR2.out.kept (by omega) _ _, by have hx := HE2.out; (repeat (first | (with_reducible exact Ext.refl _) | (with_reducible assumption) | (with_reducible apply Ext.alloc) | (with_reducible apply Ext.drew) | (with_reducible apply Ext.drewN) | ((with_reducible refine Ext.setCell ?_ ?_ _); rotate_left; (focus (first | (simp; done) | (simp; omega) | omega))) | (with_reducible refine Ext.trans ?_ (by assumption))))⟩
        case measure => simp [intOf]; omega
      · have hl0 : ¬ (m : Int) + 1 = z := by omega
        go_wp2_with (at_builtin; refine app_hC (wcls z m) (bs := w.heap.size + 2) (Own.ext hown.out (by (repeat (first | (with_reducible exact Ext.refl _) | (with_reducible assumption) | (with_reducible apply Ext.alloc) | (with_reducible apply Ext.drew) | (with_reducible apply Ext.drewN) | ((with_reducible refine Ext.setCell ?_ ?_ _); rotate_left; (focus (first | (simp; done) | (simp; omega) | omega))) | (with_reducible refine Ext.trans ?_ (by assumption)))))) (by rw [wofL_len]; omega) (by simp; omega) (by simp [Cls.cells, wcls, hl0]; try omega) rfl rfl rfl (by show Value.slice _ _ _ = _; simp) ?_; intro v2 w2 hown2 hG2; obtain ⟨A2, k2, rfl, _, _⟩ := Own.rd hown2 Cls.len; have HO2 := Lib.hid hown2; have BC2 := Lib.hid ((hbc.out.ext (by (repeat (first | (with_reducible exact Ext.refl _) | (with_reducible assumption) | (with_reducible apply Ext.alloc) | (with_reducible apply Ext.drew) | (with_reducible apply Ext.drewN) | ((with_reducible refine Ext.setCell ?_ ?_ _); rotate_left; (focus (first | (simp; done) | (simp; omega) | omega))) | (with_reducible refine Ext.trans ?_ (by assumption)))))).grown hG2 (fun e => by have := (Own.lt hown.out _ e).1; omega)); have BR2 := Lib.hid ((hbr.out.ext (by (repeat (first | (with_reducible exact Ext.refl _) | (with_reducible assumption) | (with_reducible apply Ext.alloc) | (with_reducible apply Ext.drew) | (with_reducible apply Ext.drewN) | ((with_reducible refine Ext.setCell ?_ ?_ _); rotate_left; (focus (first | (simp; done) | (simp; omega) | omega))) | (with_reducible refine Ext.trans ?_ (by assumption)))))).grown hG2 (fun e => by have := (Own.lt hown.out _ e).1; omega)); have HE2 := Lib.hid (Ext.grown (show Ext w _ by (repeat (first | (with_reducible exact Ext.refl _) | (with_reducible assumption) | (with_reducible apply Ext.alloc) | (with_reducible apply Ext.drew) | (with_reducible apply Ext.drewN) | ((with_reducible refine Ext.setCell ?_ ?_ _); rotate_left; (focus (first | (simp; done) | (simp; omega) | omega))) | (with_reducible refine Ext.trans ?_ (by assumption))))) hG2 (fun g hg => by have := (Own.lt hown.out g hg).1; omega)); clear hown2 hG2 p0 p1 p2 p3 g0 g1 g2 g3 hg; obtain ⟨⟨p0, p1, p2, p3⟩, ⟨g0, g1, g2, g3⟩, hg⟩ := C4.blk BC2.out)
        go_wp2
        go_roundw
        case rel => exact ⟨m + 1, by omega, by go_num, ⟨_, by rw [wofL_succ]; exact Own.setCell HO2.out (by omega) _ _, Lib.hid (by have := BC2.out.set_ 1 (.slice A2 (wofL z m ++ [wcls z m]).length k2); simpa using this)⟩, BR2.out.kept (by omega) _ _, by have hx := HE2.out; (repeat (first | (with_reducible exact Ext.refl _) | (with_reducible assumption) | (with_reducible apply Ext.alloc) | (with_reducible apply Ext.drew) | (with_reducible apply Ext.drewN) | ((with_reducible refine Ext.setCell ?_ ?_ _); rotate_left; (focus (first | (simp; done) | (simp; omega) | omega))) | (with_reducible refine Ext.trans ?_ (by assumption))))⟩
        case measure => simp [intOf]; omega
    · obtain rfl : m = z := by omega
      obtain ⟨A1, k1, rfl, _, _⟩ := Own.rd hown.out Cls.len
      obtain ⟨⟨r0, r1, r2, r3⟩, ⟨f0, f1, f2, f3⟩, hf⟩ := C4.blk hbr.out
      have EX := Lib.hid hx
      clear hx
      go_wp2
      refine bodyPost_ret (v := .tuple #[cfgV deepS (.slice A1 (wofL m m).length k1) (.slice none 0 0) m, .bool true]) (by simp [results, Try.results5, go_sem, *]) rfl ⟨_, _, rfl, ?_, World.ownsRow_nil _ _ _ _, ?_⟩
      · refine Own.mono (base := w.heap.size + 2) ?_ (by omega)
        repeat (first | (with_reducible exact hown.out) | (with_reducible refine Own.setCell ?_ (by omega) _ _))
      · have hx := EX.out
        (repeat (first | (with_reducible exact Ext.refl _) | (with_reducible assumption) | (with_reducible apply Ext.alloc) | (with_reducible apply Ext.drew) | (with_reducible apply Ext.drewN) | ((with_reducible refine Ext.setCell ?_ ?_ _); rotate_left; (focus (first | (simp; done) | (simp; omega) | omega))) | (with_reducible refine Ext.trans ?_ (by assumption))))
end Go.Proofs.Ytnamgkiealfffaa
