/- Contracts: the binary form of attributes, the reference's side. -/
import Derived.Test.YtifhjhgccknndaaDoorEncP
import Derived.Test.YtifhjhgccknndaaDoorAttS
namespace Go.Proofs.YtifhjhgccknndaaDoor
open Go.RowKit
set_option maxHeartbeats 1000000
set_option linter.unusedSimpArgs false
set_option linter.unusedVariables false

def strLen (v : Value) : Nat := match v with
  | .string t => t.size
  | _ => 0
theorem spec_tvWord_w (a : Int) (w : World) (h : 0 ≤ a) (h2 : a < 65536) :
    Calls Tryd.prog 63 #[.int .i64 a] w fun e w' => e = .returned (.string (strU (wd a))) ∧ Ext w w' := by
  have := spec_tvWord_any a w h h2
  rwa [show a / 256 = a / 256 % 256 by omega, strU_wd] at this
theorem rep_snoc (X : List UInt8) (j : Nat) : strU (X ++ List.replicate j 0) ++ ⟨#[0]⟩ = strU (X ++ List.replicate (j + 1) 0) := by
  rw [List.replicate_succ', ← List.append_assoc, ← strU_add]
  rfl
/-- What the padding loop ends with. -/
theorem pad_done (X : List UInt8) (j k : Nat) (h : X.length + j = k) : X ++ List.replicate j 0 = padTo k X := by
  unfold padTo
  rw [show k - X.length = j by omega]

theorem tv_bytes (v : Value) (l : List Att) (hg : goodB l = true) (hz : preSz l l.length ≤ 6000) : ∀ N : Nat,
    (∀ (i : Nat) (w : World), RdA w v l → i < l.length → 2 * (endN l i - i) ≤ N → Calls Tryd.prog 65 #[v, .int .i64 (i : Int)] w fun e w' => e = .returned (.string (strU (enc l i (endN l i)))) ∧ Ext w w') ∧
    (∀ (a b : Nat) (w : World), RdA w v l → a ≤ b → b ≤ l.length → closed l a b → 2 * (b - a) + 1 ≤ N → Calls Tryd.prog 57 #[v, .int .i64 (a : Int), .int .i64 (b : Int)] w fun e w' => e = .returned (.string (strU (enc l a b))) ∧ Ext w w') := by
  have hl := (good_get hg).1
  intro N
  induction N with
  | zero => exact ⟨fun i w _ hi hN => absurd hN (by have := endN_lt l i hi; omega), fun a b w _ _ _ _ hN => absurd hN (by omega)⟩
  | succ N ih =>
    have IH := Lib.hid ih
    clear ih
    have HG := Lib.hid hg
    have HZ := Lib.hid hz
    clear hg hz
    refine ⟨fun i w h hi hN => ?_, fun a b w h hab hbl hcl hN => ?_⟩
    · obtain ⟨he0, he1⟩ := endN_lt l i hi
      have H := Lib.hid h
      obtain ⟨A, c, rfl, hc, hrd⟩ := h
      obtain ⟨bb, o, rfl, hb, hcell⟩ := hrd i l[i] (List.getElem?_eq_getElem hi)
      have c1 : w.cell? ⟨bb, o + i * 4 + 1, none⟩ = some (.int .i64 l[i].type) := hcell 1 _ rfl
      have c2 : w.cell? ⟨bb, o + i * 4 + 2, none⟩ = some (.bool l[i].nested) := hcell 2 _ rfl
      have c3 : w.cell? ⟨bb, o + i * 4 + 3, none⟩ = some (.string l[i].data) := hcell 3 _ rfl
      have hxm := (good_get HG.out).2.2.2 l[i] (List.getElem_mem hi)
      have hle := enc_leaf HG.out i hi
      have hne := enc_nested l i hi
      have hci := closed_in l i hi
      generalize l[i] = x at c1 c2 c3 hxm hle hne
      obtain ⟨_, _, t0, t1, s0, _⟩ := hxm
      have HCI := Lib.hid hci
      obtain ⟨b0, b1⟩ := enc_bd HG.out (i + 1) (endN l i) (by omega) he1 hci HZ.out
      clear hrd hcell hci
      obtain ⟨y3, hy3⟩ : ∃ y3, y3 = x.data := ⟨_, rfl⟩
      rw [← hy3] at c3 s0
      obtain ⟨body, k6, t5, hk0, hk1, hb6, ht5, hT5, hF, hcase⟩ : ∃ (body : List UInt8) (k6 : Int) (t5 : ByteArray), 0 ≤ k6 ∧ k6 < 65536 ∧ body.length ≤ 6000 ∧ t5.size ≤ 6000 ∧ Hid (t5 = strU body) ∧ Hid (enc l i (endN l i) = frm k6 body) ∧
          ((x.nested = false ∧ k6 = x.type ∧ t5 = y3) ∨ (x.nested = true ∧ k6 = x.type + 32768 ∧ Hid (t5 = strU (enc l (i + 1) (endN l i))))) := by
        cases hn : x.nested
        · exact ⟨y3.data.toList, x.type, y3, t0, by omega, by rw [size_data]; omega, by omega, (strU_data y3).symm, by show _ = _; rw [hle hn, hy3], .inl ⟨rfl, rfl, rfl⟩⟩
        · exact ⟨enc l (i + 1) (endN l i), x.type + 32768, strU (enc l (i + 1) (endN l i)), by omega, by omega, b0, by rw [strU_size]; exact b0, rfl, hne hn, .inr ⟨rfl, rfl, rfl⟩⟩
      have HTS := Lib.hid (show t5.size = body.length by rw [hT5.out, strU_size])
      have hts0 : (t5.size : Int) ≤ body.length := by rw [HTS.out]; omega
      have hts1 : (body.length : Int) ≤ t5.size := by rw [HTS.out]; omega
      clear hle hne hy3
      rcases hcase with ⟨hn, rfl, rfl⟩ | ⟨hn, rfl, hT⟩
      · rw [hn] at c2
        go_enter Tryd.func65, Tryd.ntmps65
        go_wp2_with fail
        have E2 := Ext.refl w
        refine (spec_tvWord_w _ _ (by omega) (by omega)).mono ?_
        rintro e w3 ⟨rfl, F3⟩
        have E3 := E2.trans F3
        obtain ⟨q1, hq1⟩ : ∃ q, q = strU (wd (4 + (t5.size : Int))) := ⟨_, rfl⟩
        rw [← hq1]
        have hq1s : q1.size ≤ 2 := by rw [hq1, strU_size, wd_len]; omega
        have HQ1 := Lib.hid hq1
        clear hq1
        go_wp2_with fail
        refine (spec_tvWord_w _ _ (by omega) (by omega)).mono ?_
        rintro e w4 ⟨rfl, F4⟩
        have E4 := E3.trans F4
        obtain ⟨q2, hq2⟩ : ∃ q, q = strU (wd (x.type)) := ⟨_, rfl⟩
        rw [← hq2]
        have hq2s : q2.size ≤ 2 := by rw [hq2, strU_size, wd_len]; omega
        have HQ2 := Lib.hid hq2
        clear hq2
        obtain ⟨X, hX⟩ : ∃ X : List UInt8, X = wd ((4 + body.length : Nat) : Int) ++ wd (x.type) ++ body := ⟨_, rfl⟩
        have HXE := Lib.hid hX
        have HX := Lib.hid (show q1 ++ q2 ++ t5 = strU X by rw [hX, ← strU_add, ← strU_add, HQ1.out, HQ2.out, hT5.out, strU_size]; congr 4)
        have hXl : X.length = 4 + body.length := by rw [hX]; simp [wd_len]; omega
        have hXl0 : X.length ≤ 4 + body.length := by omega
        have hXl1 : 4 + body.length ≤ X.length := by omega
        have HSZ := Lib.hid (show (q1 ++ q2 ++ t5).size = X.length by rw [HX.out, strU_size])
        clear hX hXl
        go_wp2
        go_loopw [8] (fun s wr => ∃ (j : Nat) (t : ByteArray), s = .string t ∧ Hid (t = strU (X ++ List.replicate j 0)) ∧ t.size ≤ X.length + j ∧ X.length + j ≤ t.size ∧ X.length + j ≤ (4 + body.length + 3) / 4 * 4 ∧ Ext w wr) (fun s _ => (4 + body.length + 3) / 4 * 4 - strLen s)
        case atStart => exact ⟨0, q1 ++ q2 ++ t5, rfl, by show _ = _; rw [HX.out]; simp, by rw [HSZ.out]; omega, by rw [HSZ.out]; omega, by omega, E4⟩
        case round =>
          obtain ⟨j, t, rfl, hT, s0, s1, hj, hx⟩ := hrel
          by_cases hlt : (t.size : Int) < (4 + (t5.size : Int) + 3) / 4 * 4
          · go_wp2_with (go_at_call 71; refine (spec_tvPad_any _ _ (by omega) (by omega)).mono ?_; rintro e w' ⟨rfl, rfl⟩)
            go_roundw
            case rel => exact ⟨j + 1, t ++ ⟨#[0]⟩, rfl, by show _ = _; rw [hT.out]; exact rep_snoc X j, by rw [ByteArray.size_append, show (⟨#[0]⟩ : ByteArray).size = 1 from rfl]; omega, by rw [ByteArray.size_append, show (⟨#[0]⟩ : ByteArray).size = 1 from rfl]; omega, by omega, hx⟩
            case measure =>
              simp only [strLen, ByteArray.size_append, show (⟨#[0]⟩ : ByteArray).size = 1 from rfl]
              omega
          · go_wp2_with (go_at_call 71; refine (spec_tvPad_any _ _ (by omega) (by omega)).mono ?_; rintro e w' ⟨rfl, rfl⟩)
            go_ret
            refine ⟨?_, hx⟩
            rw [hF.out, hT.out, pad_done X j (pad4 (4 + body.length)) (by unfold pad4; omega), HXE.out]
            rfl
      · rw [hn] at c2
        go_enter Tryd.func65, Tryd.ntmps65
        go_wp2_with fail
        refine (spec_tvEnd_any _ l i _ H.out (by omega) hi).mono ?_
        rintro e w1 ⟨rfl, F1⟩
        go_wp2_with fail
        rw [show ((i : Int) + 1) = ((i + 1 : Nat) : Int) by omega]
        refine (IH.out.2 (i + 1) (endN l i) _ (H.out.ext F1) (by omega) he1 HCI.out (by omega)).mono ?_
        rintro e w2 ⟨rfl, F2⟩
        have E2 := F1.trans F2
        rw [← hT.out]
        clear hT
        go_wp2_with fail
        refine (spec_tvWord_w _ _ (by omega) (by omega)).mono ?_
        rintro e w3 ⟨rfl, F3⟩
        have E3 := E2.trans F3
        obtain ⟨q1, hq1⟩ : ∃ q, q = strU (wd (4 + (t5.size : Int))) := ⟨_, rfl⟩
        rw [← hq1]
        have hq1s : q1.size ≤ 2 := by rw [hq1, strU_size, wd_len]; omega
        have HQ1 := Lib.hid hq1
        clear hq1
        go_wp2_with fail
        refine (spec_tvWord_w _ _ (by omega) (by omega)).mono ?_
        rintro e w4 ⟨rfl, F4⟩
        have E4 := E3.trans F4
        obtain ⟨q2, hq2⟩ : ∃ q, q = strU (wd (x.type + 32768)) := ⟨_, rfl⟩
        rw [← hq2]
        have hq2s : q2.size ≤ 2 := by rw [hq2, strU_size, wd_len]; omega
        have HQ2 := Lib.hid hq2
        clear hq2
        obtain ⟨X, hX⟩ : ∃ X : List UInt8, X = wd ((4 + body.length : Nat) : Int) ++ wd (x.type + 32768) ++ body := ⟨_, rfl⟩
        have HXE := Lib.hid hX
        have HX := Lib.hid (show q1 ++ q2 ++ t5 = strU X by rw [hX, ← strU_add, ← strU_add, HQ1.out, HQ2.out, hT5.out, strU_size]; congr 4)
        have hXl : X.length = 4 + body.length := by rw [hX]; simp [wd_len]; omega
        have hXl0 : X.length ≤ 4 + body.length := by omega
        have hXl1 : 4 + body.length ≤ X.length := by omega
        have HSZ := Lib.hid (show (q1 ++ q2 ++ t5).size = X.length by rw [HX.out, strU_size])
        clear hX hXl
        go_wp2
        go_loopw [8] (fun s wr => ∃ (j : Nat) (t : ByteArray), s = .string t ∧ Hid (t = strU (X ++ List.replicate j 0)) ∧ t.size ≤ X.length + j ∧ X.length + j ≤ t.size ∧ X.length + j ≤ (4 + body.length + 3) / 4 * 4 ∧ Ext w wr) (fun s _ => (4 + body.length + 3) / 4 * 4 - strLen s)
        case atStart => exact ⟨0, q1 ++ q2 ++ t5, rfl, by show _ = _; rw [HX.out]; simp, by rw [HSZ.out]; omega, by rw [HSZ.out]; omega, by omega, E4⟩
        case round =>
          obtain ⟨j, t, rfl, hT, s0, s1, hj, hx⟩ := hrel
          by_cases hlt : (t.size : Int) < (4 + (t5.size : Int) + 3) / 4 * 4
          · go_wp2_with (go_at_call 71; refine (spec_tvPad_any _ _ (by omega) (by omega)).mono ?_; rintro e w' ⟨rfl, rfl⟩)
            go_roundw
            case rel => exact ⟨j + 1, t ++ ⟨#[0]⟩, rfl, by show _ = _; rw [hT.out]; exact rep_snoc X j, by rw [ByteArray.size_append, show (⟨#[0]⟩ : ByteArray).size = 1 from rfl]; omega, by rw [ByteArray.size_append, show (⟨#[0]⟩ : ByteArray).size = 1 from rfl]; omega, by omega, hx⟩
            case measure =>
              simp only [strLen, ByteArray.size_append, show (⟨#[0]⟩ : ByteArray).size = 1 from rfl]
              omega
          · go_wp2_with (go_at_call 71; refine (spec_tvPad_any _ _ (by omega) (by omega)).mono ?_; rintro e w' ⟨rfl, rfl⟩)
            go_ret
            refine ⟨?_, hx⟩
            rw [hF.out, hT.out, pad_done X j (pad4 (4 + body.length)) (by unfold pad4; omega), HXE.out]
            rfl
    · have H := Lib.hid h
      have HCL := Lib.hid hcl
      obtain ⟨bz0, _⟩ := enc_bd HG.out a b hab hbl hcl HZ.out
      clear h hcl
      go_enter Tryd.func57, Tryd.ntmps57
      go_wp2
      go_loopw [8, 7] (fun t s wr => ∃ (k : Nat) (P : List UInt8) (q : ByteArray), a ≤ k ∧ k ≤ b ∧ t = .int .i64 (k : Int) ∧ s = .string q ∧ Hid (q = strU P) ∧ Hid (enc l a b = P ++ enc l k b) ∧ q.size ≤ 6000 ∧ Ext w wr) (fun t _ _ => b - (intOf t).toNat)
      case atStart => exact ⟨a, [], ⟨#[]⟩, Nat.le_refl _, hab, rfl, rfl, rfl, rfl, by show 0 ≤ 6000; omega, Ext.refl _⟩
      case round =>
        obtain ⟨k, P, q, hk0, hk1, rfl, rfl, hQ, hP, hq6, hx⟩ := hrel
        by_cases hlt : k < b
        · have hkl : k < l.length := by omega
          obtain ⟨he0, _⟩ := endN_lt l k hkl
          have he1 := HCL.out k hk0 hlt
          have HS := Lib.hid (enc_step l k b hkl he1)
          have hsz : (P ++ enc l k (endN l k)).length ≤ 6000 := by
            have h1 := hP.out
            rw [HS.out] at h1
            have h2 := congrArg List.length h1
            simp at h2 ⊢
            omega
          go_wp2_with fail
          refine (IH.out.1 k _ (H.out.ext hx) hkl (by omega)).mono ?_
          rintro e w1 ⟨rfl, F1⟩
          obtain ⟨r, hr⟩ : ∃ r, r = strU (enc l k (endN l k)) := ⟨_, rfl⟩
          rw [← hr]
          have hrs : r.size ≤ 6000 := by rw [hr, strU_size]; simp at hsz; omega
          have HRr := Lib.hid hr
          have HSZ := Lib.hid hsz
          clear hr hsz
          go_wp2_with fail
          refine (spec_tvEnd_any _ l k _ (H.out.ext (hx.trans F1)) (by omega) hkl).mono ?_
          rintro e w2 ⟨rfl, F2⟩
          go_wp2
          go_roundw
          case rel => exact ⟨endN l k, P ++ enc l k (endN l k), q ++ r, by omega, he1, rfl, rfl, by show _ = _; rw [hQ.out, HRr.out, strU_add], by show _ = _; rw [hP.out, HS.out, List.append_assoc], by rw [hQ.out, HRr.out, strU_add, strU_size]; exact HSZ.out, (hx.trans F1).trans F2⟩
          case measure => simp [intOf]; omega
        · obtain rfl : k = b := by omega
          go_wp2
          go_ret
          exact ⟨by rw [hP.out, enc_none l k k (Nat.le_refl _), List.append_nil, ← hQ.out]; rfl, hx⟩
theorem spec_tvAll_any (v : Value) (l : List Att) (a b : Nat) (w : World) (h : RdA w v l) (hab : a ≤ b) (hb : b ≤ l.length) (hc : closed l a b) (hg : goodB l = true) (hz : preSz l l.length ≤ 6000) :
    Calls Tryd.prog 57 #[v, .int .i64 (a : Int), .int .i64 (b : Int)] w fun e w' => e = .returned (.string (strU (enc l a b))) ∧ Ext w w' :=
  (tv_bytes v l hg hz _).2 a b w h hab hb hc (Nat.le_refl _)

/-- The binary form, if there is one. -/
def encV (l : List Att) : ByteArray := if encB l then strU (enc l 0 l.length) else ⟨#[]⟩
theorem encB_parts {l : List Att} (h : encB l = true) : goodB l = true ∧ preSz l l.length ≤ 6000 := by
  simpa [encB] using h

end Go.Proofs.YtifhjhgccknndaaDoor
