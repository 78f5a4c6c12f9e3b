/- The text of a fault: contracts of the reference's helpers. -/
import Derived.Test.YtnamgkiealfffaaDoorPfP
import Derived.Test.YtnamgkiealfffaaDoorTxt3
import Derived.Deep.RegionHeld3
import Derived.Deep.DeepCutAuto
namespace Go.Proofs.YtnamgkiealfffaaDoor
open Go.RowKit
set_option maxRecDepth 20000
set_option maxHeartbeats 1000000
set_option linter.unusedSimpArgs false
set_option linter.unusedVariables false

theorem ext_data (s : ByteArray) (f i : Nat) : (s.extract f i).data.toList = (s.data.toList.drop f).take (i - f) := by
  rw [ByteArray.data_extract, Array.toList_extract, List.extract_eq_take_drop]
def mkB (l : List UInt8) : ByteArray := ⟨l.toArray⟩
theorem mkB_ext (s : ByteArray) (f i : Nat) : mkB ((s.data.toList.drop f).take (i - f)) = s.extract f i := (ba_eq (ext_data s f i)).symm
theorem clean_next {L : List UInt8} {f i : Nat} {c : UInt8} (hf : f ≤ i) (hc : L[i]? = some c) (h : ∀ x ∈ (L.drop f).take (i - f), x ≠ 32) (hn : c ≠ 32) : ∀ x ∈ (L.drop f).take (i + 1 - f), x ≠ 32 := by
  intro x hx
  rw [show i + 1 - f = i - f + 1 by omega, List.take_add_one, List.mem_append] at hx
  rcases hx with hx | hx
  · exact h x hx
  · rw [List.getElem?_drop, show f + (i - f) = i by omega, hc] at hx
    simp at hx
    rw [hx]; exact hn
theorem split_next {L : List UInt8} {f i : Nat} (hf : f ≤ i) (hc : L[i]? = some 32) (h : ∀ x ∈ (L.drop f).take (i - f), x ≠ 32) : splitL (L.drop f) = (L.drop f).take (i - f) :: splitL (L.drop (i + 1)) := by
  have hi : i < L.length := (List.getElem?_eq_some_iff.1 hc).1
  have e : L.drop f = (L.drop f).take (i - f) ++ 32 :: L.drop (i + 1) := by
    conv => lhs; rw [← List.take_append_drop (i - f) (L.drop f)]
    rw [List.drop_drop, show f + (i - f) = i by omega, List.drop_eq_getElem_cons hi, (List.getElem?_eq_some_iff.1 hc).2]
  have := splitL_pre (L.drop (i + 1)) _ h
  rw [← e] at this
  exact this
theorem spec_l1Split_any (s : ByteArray) (w : World) (hs : s.size ≤ 1048576) :
    Calls Tryd.prog 26 #[.string s, .int .u8 32] w fun e w' => ∃ u, e = .returned u ∧ OwnS w' w.heap.size u ((splitL s.data.toList).map mkB) ∧ Ext w w' := by
  go_enter Tryd.func26, Tryd.ntmps26
  go_wp2
  go_loopw [7, 6, 5] (fun t r v wr => ∃ (i f : Nat) (acc : List ByteArray), t = .int .i64 (i : Int) ∧ r = .int .i64 (f : Int) ∧ f ≤ i ∧ i ≤ s.size ∧ acc.length ≤ i ∧ Hid (OwnS wr w.heap.size v acc) ∧ Hid ((splitL s.data.toList).map mkB = acc ++ (splitL (s.data.toList.drop f)).map mkB) ∧ Hid (∀ x ∈ (s.data.toList.drop f).take (i - f), x ≠ 32) ∧ Ext w wr) (fun t _ _ _ => s.size - (intOf t).toNat)
  case atStart => exact ⟨0, 0, [], rfl, rfl, Nat.le_refl _, Nat.zero_le _, Nat.zero_le _, Lib.hid (World.ownsRow_nil _ _ _ _), rfl, by intro x hx; simp at hx, Ext.refl _⟩
  case round =>
    obtain ⟨i, f, acc, rfl, rfl, hfi, his, hal, hown, hsp, hcl, hx⟩ := hrel
    by_cases hlt : i < s.size
    · have hget : s.data.toList[i]? = some s[i] := by
        rw [Array.getElem?_toList]
        exact Array.getElem?_eq_getElem hlt
      have HG := Lib.hid hget
      clear hget
      have hfs : (f : Int) ≤ (s.size : Int) := by omega
      have hfi' : (f : Int) ≤ (i : Int) := by omega
      have his' : (i : Int) ≤ (s.size : Int) := by omega
      by_cases hc : (s[i].toNat : Int) = 32
      · have hc32 : s[i] = 32 := by
          apply UInt8.toNat_inj.1
          show _ = 32
          omega
        have HS := Lib.hid (show (splitL s.data.toList).map mkB = (acc ++ [s.extract f i]) ++ (splitL (s.data.toList.drop (i + 1))).map mkB by
          rw [hsp.out, split_next hfi (by rw [HG.out, hc32]) hcl.out, List.map_cons, mkB_ext, List.append_assoc]
          rfl)
        clear hc32
        go_wp2_with (at_builtin; refine app_str (w := w) hown.out (by omega) hx rfl rfl rfl rfl ?_; intro v4 w4 hown4 D4; have HO4 := Lib.hid hown4; clear hown4)
        go_roundw
        case rel => exact ⟨i + 1, i + 1, acc ++ [s.extract f i], by go_num, by go_num, Nat.le_refl _, hlt, by rw [List.length_append]; simp; omega, HO4, HS, Lib.hid (by intro x hx; simp at hx), D4⟩
        case measure => simp [intOf]; omega
      · have HN := Lib.hid (show s[i] ≠ 32 by intro h; exact hc (by rw [h]; rfl))
        have HC := Lib.hid (clean_next hfi HG.out hcl.out HN.out)
        go_wp2
        go_roundw
        case rel => exact ⟨i + 1, f, acc, by go_num, rfl, by omega, hlt, by omega, hown, hsp, HC, hx⟩
        case measure => simp [intOf]; omega
    · obtain rfl : i = s.size := by omega
      have hfs : (f : Int) ≤ (s.size : Int) := by omega
      have HS := Lib.hid (show (splitL s.data.toList).map mkB = acc ++ [s.extract f s.size] by
        have hl : s.data.toList.length = s.size := by rw [Array.length_toList]; rfl
        have e : (s.data.toList.drop f).take (s.size - f) = s.data.toList.drop f := List.take_of_length_le (by rw [List.length_drop]; omega)
        have h2 := hcl.out
        rw [e] at h2
        rw [hsp.out, splitL_end _ h2, List.map_singleton, ← mkB_ext, e])
      go_wp2_with (at_builtin; refine app_str (w := w) hown.out (by omega) hx rfl rfl rfl rfl ?_; intro v4 w4 hown4 D4; have HO4 := Lib.hid hown4; clear hown4)
      go_ret
      exact ⟨_, rfl, by rw [HS.out]; exact HO4.out, D4⟩
theorem kNames_get (k : Nat) (h : k < 8) : kNames[k]? = some (nmK k) := by
  match k, h with
  | 0, _ => rfl
  | 1, _ => rfl
  | 2, _ => rfl
  | 3, _ => rfl
  | 4, _ => rfl
  | 5, _ => rfl
  | 6, _ => rfl
  | 7, _ => rfl
def kCells : Array Value := #[.string ⟨#[110, 111, 110, 101]⟩, .string ⟨#[98, 121, 116, 101]⟩, .string ⟨#[116, 111, 107, 101, 110]⟩, .string ⟨#[110, 117, 109, 98, 101, 114]⟩, .string ⟨#[100, 101, 112, 116, 104]⟩, .string ⟨#[99, 111, 117, 110, 116]⟩, .string ⟨#[101, 110, 100]⟩, .string ⟨#[110, 97, 109, 101]⟩]
theorem kCells_get (k : Nat) (h : k < 8) : kCells[k]? = some (.string (nmK k)) := by
  match k, h with
  | 0, _ => rfl
  | 1, _ => rfl
  | 2, _ => rfl
  | 3, _ => rfl
  | 4, _ => rfl
  | 5, _ => rfl
  | 6, _ => rfl
  | 7, _ => rfl
theorem spec_erNames_any (w : World) :
    Calls Tryd.prog 43 #[] w fun e w' => ∃ b, e = .returned (.slice (some ⟨b, 0, none⟩) 8 8) ∧ (∀ k, k < 8 → w'.cell? ⟨b, k, none⟩ = some (.string (nmK k))) ∧ b < w'.heap.size ∧ Ext w w' := by
  go_enter Tryd.func43, Tryd.ntmps43
  go_wp2
  go_ret
  refine ⟨w.heap.size, rfl, fun k hk => ?_, by simp, (Ext.refl _).alloc _⟩
  have hb := Blk.new w 9 kCells
  unfold Blk at hb
  have : (w.alloc (.cells kCells 9)).cell? ⟨w.heap.size, k, none⟩ = kCells[k]? := by simp only [World.cell?, Option.isSome_none, Bool.false_eq_true, if_false, hb]
  exact this.trans (kCells_get k hk)
theorem spec_erNamed_any (s : ByteArray) (w : World) :
    Calls Tryd.prog 27 #[.string s] w fun e w' => ∃ r : Int, e = .returned (.int .i64 r) ∧ ((∃ j : Nat, j < 8 ∧ r = (j : Int) ∧ nmK j = s) ∨ (r = -1 ∧ ∀ j, j < 8 → nmK j ≠ s)) ∧ Ext w w' := by
  go_enter Tryd.func27, Tryd.ntmps27
  go_wp2_with fail
  refine (spec_erNames_any _).mono ?_
  rintro e w1 ⟨b, rfl, hcell, hb, F1⟩
  have HC := Lib.hid hcell
  clear hcell
  go_wp2
  go_loopw [7] (fun t wr => ∃ k : Nat, k ≤ 8 ∧ t = .int .i64 (k : Int) ∧ Hid (∀ j, j < k → nmK j ≠ s) ∧ Ext w1 wr) (fun t _ => 8 - (intOf t).toNat)
  case atStart => exact ⟨0, Nat.zero_le _, rfl, Lib.hid (fun j hj => absurd hj (Nat.not_lt_zero _)), Ext.refl _⟩
  case round =>
    obtain ⟨k, hk, rfl, hq, hx⟩ := hrel
    by_cases hlt : k < 8
    · have c0 : wr.cell? ⟨b, k, none⟩ = some (.string (nmK k)) := by rw [Ext.cell hx hb]; exact HC.out k hlt
      generalize hy : nmK k = y at c0
      have HY := Lib.hid hy
      clear hy
      have hk8 : (k : Int) < 8 := by omega
      cases he : (y.toList == s.toList)
      · have HE := Lib.hid (show nmK k ≠ s by rw [HY.out]; exact ne_toList.1 he)
        go_wp2
        go_roundw
        case rel => exact ⟨k + 1, by omega, by go_num, Lib.hid (fun j hj => by
          rcases Nat.lt_or_eq_of_le (Nat.le_of_lt_succ hj) with h | h
          · exact hq.out j h
          · rw [h]; exact HE.out), hx⟩
        case measure => simp [intOf]; omega
      · have HE := Lib.hid (show nmK k = s by rw [HY.out]; exact eq_toList.1 he)
        go_wp2
        go_ret
        exact ⟨_, rfl, .inl ⟨k, hlt, rfl, HE.out⟩, F1.trans hx⟩
    · obtain rfl : k = 8 := by omega
      go_wp2
      go_ret
      exact ⟨_, rfl, .inr ⟨rfl, hq.out⟩, F1.trans hx⟩
theorem rd_step (z : ByteArray) (acc i : Nat) (h : i < z.size) : ((z[i].toNat < 48 ∨ 57 < z[i].toNat) → Lib.decFrom acc (z.data.toList.drop i) = none) ∧
    (48 ≤ z[i].toNat → z[i].toNat ≤ 57 → Lib.decFrom acc (z.data.toList.drop i) = Lib.decFrom (acc * 10 + (z[i].toNat - 48)) (z.data.toList.drop (i + 1))) := by
  have e : z.data.toList.drop i = z[i] :: z.data.toList.drop (i + 1) := by
    rw [List.drop_eq_getElem_cons (by rw [Array.length_toList]; exact h)]
    rfl
  rw [e]
  constructor
  · intro hc
    simp only [Lib.decFrom, Lib.digitVal]
    rw [if_neg (by omega)]
  · intro h1 h2
    simp only [Lib.decFrom, Lib.digitVal]
    rw [if_pos ⟨h1, h2⟩]
theorem spec_l1Read_any (z : ByteArray) (w : World) (hz : z.size ≤ 1048576) :
    Calls Tryd.prog 28 #[.string z] w fun e w' => e = .returned (.int .i64 (rdV z)) ∧ Ext w w' := by
  by_cases h1 : 1 ≤ z.size ∧ z.size ≤ 6
  · obtain ⟨n1, n6⟩ := h1
    have hin : inR (z.size : Int) 1 6 = true := inR_iff.2 ⟨by omega, by omega⟩
    have h0s : 0 < z.size := by omega
    have hh : z.data.toList.head? = some z[0] := by
      rw [List.head?_eq_getElem?, Array.getElem?_toList]
      exact Array.getElem?_eq_getElem h0s
    have HH := Lib.hid hh
    clear hh
    by_cases hb : (z[0].toNat : Int) = 48 ∧ 1 < z.size
    · obtain ⟨hb1, hb2⟩ := hb
      have HR := Lib.hid (show rdV z = -1 by
        unfold rdV
        rw [if_neg]
        rintro ⟨_, _, h⟩
        refine h ⟨?_, hb2⟩
        rw [HH.out]
        congr 1
        apply UInt8.toNat_inj.1
        show _ = 48
        omega)
      go_enter Tryd.func28, Tryd.ntmps28
      go_wp2_with (go_at_call 22; refine (spec_l1In_any _ _ _ _ ).mono ?_; rintro e w' ⟨rfl, rfl⟩)
      go_ret
      exact ⟨by rw [HR.out]; rfl, Ext.refl _⟩
    · have HR := Lib.hid (show rdV z = (match Lib.decFrom 0 z.data.toList with | some v => (v : Int) | none => -1) by
        unfold rdV
        refine if_pos ⟨n1, n6, ?_⟩
        rintro ⟨h2, h3⟩
        refine hb ⟨?_, h3⟩
        rw [HH.out, Option.some.injEq] at h2
        rw [h2]
        rfl)
      by_cases hb1 : (z[0].toNat : Int) = 48
      · have hb2 : ¬ 1 < z.size := fun h => hb ⟨hb1, h⟩
        clear hb
        go_enter Tryd.func28, Tryd.ntmps28
        go_wp2_with (go_at_call 22; refine (spec_l1In_any _ _ _ _ ).mono ?_; rintro e w' ⟨rfl, rfl⟩)
        go_loopw [4, 3] (fun t r wr => ∃ (i acc : Nat), t = .int .i64 (i : Int) ∧ r = .int .i64 (acc : Int) ∧ i ≤ z.size ∧ Hid (acc < 10 ^ i) ∧ Hid (Lib.decFrom 0 z.data.toList = Lib.decFrom acc (z.data.toList.drop i)) ∧ Ext w wr) (fun t _ _ => z.size - (intOf t).toNat)
        case atStart => exact ⟨0, 0, rfl, rfl, Nat.zero_le _, Lib.hid (by decide), rfl, Ext.refl _⟩
        case round =>
          obtain ⟨i, acc, rfl, rfl, his, hac, hd, hx⟩ := hrel
          by_cases hlt : i < z.size
          · have hst := rd_step z acc i hlt
            have HST := Lib.hid hst
            clear hst
            have hacc : acc < 100000 := Nat.lt_of_lt_of_le hac.out (Nat.pow_le_pow_right (j := 5) (by omega) (show i ≤ 5 by omega))
            by_cases hlo : (z[i].toNat : Int) < 48
            · have HV := Lib.hid (show rdV z = -1 by rw [HR.out, hd.out, HST.out.1 (by omega)])
              go_wp2
              go_ret
              exact ⟨by rw [HV.out]; rfl, hx⟩
            · by_cases hhi : (57 : Int) < (z[i].toNat : Int)
              · have HV := Lib.hid (show rdV z = -1 by rw [HR.out, hd.out, HST.out.1 (by omega)])
                go_wp2
                go_ret
                exact ⟨by rw [HV.out]; rfl, hx⟩
              · have HD := Lib.hid (hd.out.trans (HST.out.2 (by omega) (by omega)))
                have HA := Lib.hid (show acc * 10 + (z[i].toNat - 48) < 10 ^ (i + 1) by have := hac.out; rw [Nat.pow_succ]; omega)
                go_wp2
                go_roundw
                case rel => exact ⟨i + 1, acc * 10 + (z[i].toNat - 48), by go_num, by go_num, hlt, HA, HD, hx⟩
                case measure => simp [intOf]; omega
          · obtain rfl : i = z.size := by omega
            have HV := Lib.hid (show rdV z = (acc : Int) by
              rw [HR.out, hd.out, List.drop_eq_nil_of_le (by rw [Array.length_toList]; exact Nat.le_refl _)]
              rfl)
            go_wp2
            go_ret
            exact ⟨by rw [HV.out]; rfl, hx⟩
      · clear hb
        go_enter Tryd.func28, Tryd.ntmps28
        go_wp2_with (go_at_call 22; refine (spec_l1In_any _ _ _ _ ).mono ?_; rintro e w' ⟨rfl, rfl⟩)
        go_loopw [4, 3] (fun t r wr => ∃ (i acc : Nat), t = .int .i64 (i : Int) ∧ r = .int .i64 (acc : Int) ∧ i ≤ z.size ∧ Hid (acc < 10 ^ i) ∧ Hid (Lib.decFrom 0 z.data.toList = Lib.decFrom acc (z.data.toList.drop i)) ∧ Ext w wr) (fun t _ _ => z.size - (intOf t).toNat)
        case atStart => exact ⟨0, 0, rfl, rfl, Nat.zero_le _, Lib.hid (by decide), rfl, Ext.refl _⟩
        case round =>
          obtain ⟨i, acc, rfl, rfl, his, hac, hd, hx⟩ := hrel
          by_cases hlt : i < z.size
          · have hst := rd_step z acc i hlt
            have HST := Lib.hid hst
            clear hst
            have hacc : acc < 100000 := Nat.lt_of_lt_of_le hac.out (Nat.pow_le_pow_right (j := 5) (by omega) (show i ≤ 5 by omega))
            by_cases hlo : (z[i].toNat : Int) < 48
            · have HV := Lib.hid (show rdV z = -1 by rw [HR.out, hd.out, HST.out.1 (by omega)])
              go_wp2
              go_ret
              exact ⟨by rw [HV.out]; rfl, hx⟩
            · by_cases hhi : (57 : Int) < (z[i].toNat : Int)
              · have HV := Lib.hid (show rdV z = -1 by rw [HR.out, hd.out, HST.out.1 (by omega)])
                go_wp2
                go_ret
                exact ⟨by rw [HV.out]; rfl, hx⟩
              · have HD := Lib.hid (hd.out.trans (HST.out.2 (by omega) (by omega)))
                have HA := Lib.hid (show acc * 10 + (z[i].toNat - 48) < 10 ^ (i + 1) by have := hac.out; rw [Nat.pow_succ]; omega)
                go_wp2
                go_roundw
                case rel => exact ⟨i + 1, acc * 10 + (z[i].toNat - 48), by go_num, by go_num, hlt, HA, HD, hx⟩
                case measure => simp [intOf]; omega
          · obtain rfl : i = z.size := by omega
            have HV := Lib.hid (show rdV z = (acc : Int) by
              rw [HR.out, hd.out, List.drop_eq_nil_of_le (by rw [Array.length_toList]; exact Nat.le_refl _)]
              rfl)
            go_wp2
            go_ret
            exact ⟨by rw [HV.out]; rfl, hx⟩
  · have hin : inR (z.size : Int) 1 6 = false := inR_not.2 (by omega)
    have HR := Lib.hid (show rdV z = -1 by
      unfold rdV
      rw [if_neg (by omega)])
    go_enter Tryd.func28, Tryd.ntmps28
    go_wp2_with (go_at_call 22; refine (spec_l1In_any _ _ _ _ ).mono ?_; rintro e w' ⟨rfl, rfl⟩)
    go_ret
    exact ⟨by rw [HR.out]; rfl, Ext.refl _⟩
end Go.Proofs.YtnamgkiealfffaaDoor
