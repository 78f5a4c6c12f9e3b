/- Texts of numbers: the reference's forms of a number. -/
import Derived.Test.YtnamgkiealfffaaDoorTxt
namespace Go.Proofs.YtnamgkiealfffaaDoor
open Go.RowKit
set_option maxRecDepth 20000
set_option maxHeartbeats 1000000
set_option linter.unusedSimpArgs false
set_option linter.unusedVariables false

def scell (x : ByteArray) : List Value := [.string x]
theorem scell_len (x : ByteArray) : (scell x).length = 1 := rfl
abbrev RdS (w : World) (v : Value) (l : List ByteArray) : Prop := Rd w 1 scell v l
abbrev OwnS (w : World) (base : Nat) (v : Value) (l : List ByteArray) : Prop := Own w base 9 1 scell v l
theorem info_str : (Tryd.prog.info? 9).map (fun i => (i.zero, i.size, i.bytes)) = some (some (.string ⟨#[]⟩), 1, 16) := by kernel_rfl
theorem app_str {ops : Array Oper} {rest : List Oper} {o : Oper} {a : Act} {Q : Exit → Act → World → Prop} {w wr : World} {v : Value} {l : List ByteArray} {y : ByteArray} {s x : Operand} (hown : OwnS wr w.heap.size v l) (hn : l.length ≤ 10000000) (hE : Ext w wr)
    (hgd : o.guard = none) (ho : o.op = .call { callee := .builtin .append, args := #[s, x], argTypes := #[47, 47] })
    (hs : a.eval s = v) (hx : a.eval x = .slice (some ⟨wr.heap.size, 0, none⟩) 1 1)
    (h : ∀ v' w', OwnS w' w.heap.size v' (l ++ [y]) → Ext w w' → wpList Tryd.prog ops Q rest (a.put o.dst v') w') : wpList Tryd.prog ops Q (o :: rest) a (wr.alloc (.cells #[.string y] 9)) := by
  obtain ⟨i0, ii0, ii1, ii2, ii3⟩ := info_parts info_str
  exact own_app1 Tryd.underlying47 ii0 ii1 ii2 ii3 rfl (by omega) (by omega) scell_len (fun x u hu => by simp [scell] at hu; subst hu; rfl) w wr hgd s x ho v l y [.string y] rfl hs hx hown hn hE h
def unitL : List ByteArray := [⟨#[109]⟩, ⟨#[107]⟩, ⟨#[]⟩]
theorem unit_get (k : Nat) (h : k < 3) : unitL[k]? = some (uName k) := by
  match k, h with
  | 0, _ => rfl
  | 1, _ => rfl
  | 2, _ => rfl
theorem spec_nuUnits_any (w : World) :
    Calls Tryd.prog 57 #[] w fun e w' => ∃ u, e = .returned u ∧ RdS w' u unitL ∧ Ext w w' := by
  go_enter Tryd.func57, Tryd.ntmps57
  go_wp2
  go_ret
  refine ⟨_, rfl, ?_, (Ext.refl _).alloc _⟩
  have := World.ownsRow_lit (base := w.heap.size) (e := 9) (size := 1) w #[.string ⟨#[109]⟩, .string ⟨#[107]⟩, .string ⟨#[]⟩] 3 (Nat.le_refl _) (by unfold maxLen; omega) rfl
  exact Own.rd (l := unitL) (cells := scell) (e := 9) (base := w.heap.size) this scell_len
theorem spec_nuSize_0 (w : World) :
    Calls Tryd.prog 58 #[.int .i64 0] w fun e w' => e = .returned (.int .i64 1000000) ∧ Ext w w' := by
  go_enter Tryd.func58, Tryd.ntmps58
  go_wp2
  go_ret
  exact ⟨rfl, (Ext.refl _).alloc _⟩
theorem spec_nuSize_1 (w : World) :
    Calls Tryd.prog 58 #[.int .i64 1] w fun e w' => e = .returned (.int .i64 1000) ∧ Ext w w' := by
  go_enter Tryd.func58, Tryd.ntmps58
  go_wp2
  go_ret
  exact ⟨rfl, (Ext.refl _).alloc _⟩
theorem spec_nuSize_2 (w : World) :
    Calls Tryd.prog 58 #[.int .i64 2] w fun e w' => e = .returned (.int .i64 1) ∧ Ext w w' := by
  go_enter Tryd.func58, Tryd.ntmps58
  go_wp2
  go_ret
  exact ⟨rfl, (Ext.refl _).alloc _⟩
theorem spec_nuForms_any (n : Int) (w : World) (h0 : 1 ≤ n) (h1 : n < 10000000000) :
    Calls Tryd.prog 48 #[.int .i64 n] w fun e w' => ∃ u, e = .returned u ∧ OwnS w' w.heap.size u (forms n 3) ∧ Ext w w' := by
  go_enter Tryd.func48, Tryd.ntmps48
  go_wp2_with fail
  refine (spec_nuUnits_any _).mono ?_
  rintro e w1 ⟨u, rfl, hr, F1⟩
  obtain ⟨UA, uc, rfl, huc, hrd⟩ := hr
  have HR := Lib.hid hrd
  clear hrd
  go_wp2
  go_loopw [8, 3] (fun t s wr => ∃ k : Nat, k ≤ 3 ∧ t = .int .i64 (k : Int) ∧ Hid (OwnS wr w1.heap.size s (forms n k)) ∧ Ext w1 wr) (fun t _ _ => 3 - (intOf t).toNat)
  case atStart => exact ⟨0, Nat.zero_le _, rfl, Lib.hid (World.ownsRow_nil _ _ _ _), Ext.refl _⟩
  case round =>
    obtain ⟨k, hk, rfl, hown, hx⟩ := hrel
    have hxw := F1.trans hx
    have hkk : k = 0 ∨ k = 1 ∨ k = 2 ∨ k = 3 := by omega
    rcases hkk with rfl | rfl | rfl | rfl
    · -- unit 0
      obtain ⟨b, o, rfl, hb, hcell⟩ := HR.out 0 ⟨#[109]⟩ rfl
      have c0 : wr.cell? ⟨b, o, none⟩ = some (.string ⟨#[109]⟩) := by rw [Ext.cell hx hb]; simpa using hcell 0 _ rfl
      have z0 : b < wr.heap.size := Ext.lts hx _ hb
      clear hcell
      by_cases hm : n % 1000000 = 0
      · have HT := Lib.hid (show forms n 1 = forms n 0 ++ [dec (n / 1000000) ++ ⟨#[109]⟩] by rw [forms_yes (k := 0) (by simp [uHas, uSize] <;> omega)]; first | rfl | (simp only [uSize, uName, Int.ediv_one]))
        have HLN := Lib.hid (show (forms n 0).length ≤ 10000000 by have := forms_len n 0; omega)
        have s1 := dec_size (n := n / 1000000) (by omega)
        have hz : (0 : Int) ≤ n / 1000000 := by omega
        go_wp2_with (first | (go_at_call 58; refine (spec_nuSize_0 _).mono ?_; rintro e w2 ⟨rfl, F2⟩; have E2 : Ext wr w2 := (by first | exact F2 | exact Ext.trans (by assumption) F2); clear F2) | (go_at_call 35; refine (spec_l1Num_any 10000000001 _ _ (by omega) (by omega) (by omega)).mono ?_; rintro e w3 ⟨rfl, F3⟩; have E3 : Ext wr w3 := Ext.trans (by assumption) F3) | (at_builtin; refine app_str (w := w1) (hown.out.ext E3) HLN.out (hx.trans E3) rfl rfl rfl rfl ?_; intro v4 w4 hown4 D4; have HO4 := Lib.hid hown4; clear hown4) | fail)
        go_roundw
        case rel => exact ⟨1, by omega, by go_num, Lib.hid (by rw [HT.out]; exact HO4.out), D4⟩
        case measure => simp [intOf]
      · have HT := Lib.hid (show forms n 1 = forms n 0 from forms_no (k := 0) (by simp [uHas, uSize]; omega))
        go_wp2_with (first | (go_at_call 58; refine (spec_nuSize_0 _).mono ?_; rintro e w2 ⟨rfl, F2⟩) | fail)
        go_roundw
        case rel => exact ⟨1, by omega, by go_num, Lib.hid (by rw [HT.out]; exact hown.out.ext F2), hx.trans F2⟩
        case measure => simp [intOf]
    · -- unit 1
      obtain ⟨b, o, rfl, hb, hcell⟩ := HR.out 1 ⟨#[107]⟩ rfl
      have c0 : wr.cell? ⟨b, o + 1, none⟩ = some (.string ⟨#[107]⟩) := by rw [Ext.cell hx hb]; simpa using hcell 0 _ rfl
      have z0 : b < wr.heap.size := Ext.lts hx _ hb
      clear hcell
      by_cases hm : n % 1000 = 0
      · have HT := Lib.hid (show forms n 2 = forms n 1 ++ [dec (n / 1000) ++ ⟨#[107]⟩] by rw [forms_yes (k := 1) (by simp [uHas, uSize] <;> omega)]; first | rfl | (simp only [uSize, uName, Int.ediv_one]))
        have HLN := Lib.hid (show (forms n 1).length ≤ 10000000 by have := forms_len n 1; omega)
        have s1 := dec_size (n := n / 1000) (by omega)
        have hz : (0 : Int) ≤ n / 1000 := by omega
        go_wp2_with (first | (go_at_call 58; refine (spec_nuSize_1 _).mono ?_; rintro e w2 ⟨rfl, F2⟩; have E2 : Ext wr w2 := (by first | exact F2 | exact Ext.trans (by assumption) F2); clear F2) | (go_at_call 35; refine (spec_l1Num_any 10000000001 _ _ (by omega) (by omega) (by omega)).mono ?_; rintro e w3 ⟨rfl, F3⟩; have E3 : Ext wr w3 := Ext.trans (by assumption) F3) | (at_builtin; refine app_str (w := w1) (hown.out.ext E3) HLN.out (hx.trans E3) rfl rfl rfl rfl ?_; intro v4 w4 hown4 D4; have HO4 := Lib.hid hown4; clear hown4) | fail)
        go_roundw
        case rel => exact ⟨2, by omega, by go_num, Lib.hid (by rw [HT.out]; exact HO4.out), D4⟩
        case measure => simp [intOf]
      · have HT := Lib.hid (show forms n 2 = forms n 1 from forms_no (k := 1) (by simp [uHas, uSize]; omega))
        go_wp2_with (first | (go_at_call 58; refine (spec_nuSize_1 _).mono ?_; rintro e w2 ⟨rfl, F2⟩) | fail)
        go_roundw
        case rel => exact ⟨2, by omega, by go_num, Lib.hid (by rw [HT.out]; exact hown.out.ext F2), hx.trans F2⟩
        case measure => simp [intOf]
    · -- unit 2
      obtain ⟨b, o, rfl, hb, hcell⟩ := HR.out 2 ⟨#[]⟩ rfl
      have c0 : wr.cell? ⟨b, o + 2, none⟩ = some (.string ⟨#[]⟩) := by rw [Ext.cell hx hb]; simpa using hcell 0 _ rfl
      have z0 : b < wr.heap.size := Ext.lts hx _ hb
      clear hcell
      by_cases hm : n % 1 = 0
      · have HT := Lib.hid (show forms n 3 = forms n 2 ++ [dec (n) ++ ⟨#[]⟩] by rw [forms_yes (k := 2) (by simp [uHas, uSize] <;> omega)]; first | rfl | (simp only [uSize, uName, Int.ediv_one]))
        have HLN := Lib.hid (show (forms n 2).length ≤ 10000000 by have := forms_len n 2; omega)
        have s1 := dec_size (n := n) (by omega)
        have hz : (0 : Int) ≤ n := by omega
        go_wp2_with (first | (go_at_call 58; refine (spec_nuSize_2 _).mono ?_; rintro e w2 ⟨rfl, F2⟩; have E2 : Ext wr w2 := (by first | exact F2 | exact Ext.trans (by assumption) F2); clear F2) | (go_at_call 35; refine (spec_l1Num_any 10000000001 _ _ (by omega) (by omega) (by omega)).mono ?_; rintro e w3 ⟨rfl, F3⟩; have E3 : Ext wr w3 := Ext.trans (by assumption) F3) | (at_builtin; refine app_str (w := w1) (hown.out.ext E3) HLN.out (hx.trans E3) rfl rfl rfl rfl ?_; intro v4 w4 hown4 D4; have HO4 := Lib.hid hown4; clear hown4) | fail)
        go_roundw
        case rel => exact ⟨3, by omega, by go_num, Lib.hid (by rw [HT.out]; exact HO4.out), D4⟩
        case measure => simp [intOf]
      · omega
    · go_wp2
      go_ret
      exact ⟨_, rfl, Own.mono hown.out (Ext.size F1), hxw⟩
end Go.Proofs.YtnamgkiealfffaaDoor
