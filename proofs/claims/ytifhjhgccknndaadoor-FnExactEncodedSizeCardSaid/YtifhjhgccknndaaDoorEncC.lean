/- The encoding of a configuration: the plain side and the contracts. -/
import Derived.Test.YtifhjhgccknndaaDoorCAttr
import Derived.Test.YtifhjhgccknndaaDoorEncI
namespace Go.Proofs.YtifhjhgccknndaaDoor
open Go.RowKit
set_option maxHeartbeats 1000000
set_option linter.unusedSimpArgs false
set_option linter.unusedVariables false

theorem numBytes_size (a : Int) : (numBytes a).size = 4 := by unfold numBytes; rw [strOfNums_size]; rfl
theorem empty_list : (⟨#[]⟩ : ByteArray).toList.isEmpty = true := by rw [ByteArray.toList_eq]; rfl
/-- Attributes that may follow whatever is at least two deep. -/
def follows (r : List Att) : Prop := ∀ m : Int, 2 ≤ m → goodFrom m r = true
theorem follows_nil : follows [] := fun _ _ => rfl
theorem good_items (r : List Att) (hr : follows r) : ∀ (l : List Int) (i m : Int), 3 ≤ m → 0 ≤ i → i + l.length ≤ 1000 → goodFrom m (itemsFrom i l ++ r) = true
  | [], i, m, hm, _, _ => hr m (by omega)
  | a :: l, i, m, hm, hi, hl => by
    have ih := good_items r hr l (i + 1) 3 (by omega) (by omega) (by simp at hl; omega)
    show (attOk m ⟨3, i, false, numBytes a⟩ && goodFrom (mostAft ⟨3, i, false, numBytes a⟩) (itemsFrom (i + 1) l ++ r)) = true
    rw [show mostAft ⟨3, i, false, numBytes a⟩ = 3 from rfl, ih, Bool.and_true]
    simp at hl
    exact attOk_mk (by simp) (by simp; omega) (by simp [numBytes_size]) (.inl rfl) (by simpa using hm)
theorem follows_item (k : Int) (l : List Int) (r : List Att) (hk : 0 ≤ k) (hk2 : k ≤ 100) (hl : l.length ≤ 100) (hr : follows r) : follows (items k l ++ r) := by
  intro m hm
  show (attOk m ⟨2, k, true, ⟨#[]⟩⟩ && goodFrom (mostAft ⟨2, k, true, ⟨#[]⟩⟩) (itemsFrom 1 l ++ r)) = true
  rw [show mostAft ⟨2, k, true, ⟨#[]⟩⟩ = 3 from rfl, good_items r hr l 1 3 (by omega) (by omega) (by omega), Bool.and_true]
  exact attOk_mk (by simp) (by simp; omega) (by show (⟨#[]⟩ : ByteArray).size ≤ 1000; decide) (.inr empty_list) (by simpa using hm)
theorem follows_flt (fs : List Flt) : follows (fs.flatMap fltItems) := by
  induction fs with
  | nil => exact follows_nil
  | cons x l ih => rw [List.flatMap_cons]; exact follows_item 5 x.nums _ (by omega) (by omega) (by simp [Flt.nums]) ih
theorem follows_cls (cs : List Cls) (r : List Att) (hr : follows r) : follows (cs.flatMap clsItems ++ r) := by
  induction cs with
  | nil => exact hr
  | cons x l ih => rw [List.flatMap_cons, List.append_assoc]; exact follows_item 4 x.nums _ (by omega) (by omega) (by simp [Cls.nums]) ih
theorem small_items (k : Int) (l : List Int) : ∀ x ∈ items k l, x.data.size ≤ 8 := by
  intro x hx
  have key : ∀ (l : List Int) (i : Int), ∀ x ∈ itemsFrom i l, x.data.size ≤ 8 := by
    intro l
    induction l with
    | nil => intro i x hx; cases hx
    | cons a l ih =>
      intro i x hx
      rcases List.mem_cons.1 hx with rfl | hx
      · show (numBytes a).size ≤ 8; rw [numBytes_size]; omega
      · exact ih _ x hx
  rcases List.mem_cons.1 hx with rfl | hx
  · show (⟨#[]⟩ : ByteArray).size ≤ 8; decide
  · exact key l 1 x hx
theorem preSz_small {l : List Att} (h : ∀ x ∈ l, x.data.size ≤ 8) : ∀ k : Nat, k ≤ l.length → preSz l k ≤ 12 * k
  | 0, _ => by simp [preSz]
  | k + 1, hk => by
    have ih := preSz_small h k (by omega)
    rw [preSz_succ l k (by omega)]
    have := h l[k] (List.getElem_mem (by omega))
    unfold szA
    push_cast
    omega
theorem enc_cat {n : ByteArray} {cs : List Cls} {fs : List Flt} {d : Int} (h : rawB n cs fs d = true) : encB (cat n cs fs d) = true := by
  obtain ⟨hn, hc, hf, hd, _, _⟩ := rawB_parts h
  have hn8 : n.size ≤ 8 := by
    simp only [nameB, Bool.and_eq_true, decide_eq_true_eq] at hn
    exact hn.1.1.2
  have hlen : (cat n cs fs d).length ≤ 315 := by
    unfold cat
    rw [List.length_append, List.length_append, flat_cls_len, flat_flt_len, show (catHd n d).length = 3 from rfl]
    omega
  have hsm : ∀ x ∈ cat n cs fs d, x.data.size ≤ 8 := by
    intro x hx
    unfold cat at hx
    rcases List.mem_append.1 hx with hx | hx
    · rcases List.mem_append.1 hx with hx | hx
      · simp only [catHd, List.mem_cons, List.not_mem_nil, or_false] at hx
        rcases hx with rfl | rfl | rfl
        · show (⟨#[]⟩ : ByteArray).size ≤ 8; decide
        · exact hn8
        · show (numBytes d).size ≤ 8; rw [numBytes_size]; omega
      · obtain ⟨y, _, hy⟩ := List.mem_flatMap.1 hx
        exact small_items 4 y.nums x hy
    · obtain ⟨y, _, hy⟩ := List.mem_flatMap.1 hx
      exact small_items 5 y.nums x hy
  have hgood : goodFrom 1 (cat n cs fs d) = true := by
    unfold cat catHd
    have hfo := follows_cls cs _ (follows_flt fs)
    show (attOk 1 ⟨1, 1, true, ⟨#[]⟩⟩ && (attOk 2 ⟨2, 2, false, n⟩ && (attOk 2 ⟨2, 3, false, numBytes d⟩ && goodFrom 2 (cs.flatMap clsItems ++ fs.flatMap fltItems)))) = true
    rw [hfo 2 (by omega), attOk_mk (by simp) (by simp) (by show (⟨#[]⟩ : ByteArray).size ≤ 1000; decide) (.inr empty_list) (by simp), attOk_mk (by simp) (by simp) (by show n.size ≤ 1000; omega) (.inl rfl) (by simp), attOk_mk (by simp) (by simp) (by simp [numBytes_size]) (.inl rfl) (by simp)]
    rfl
  have hp := preSz_small hsm _ (Nat.le_refl _)
  simp only [encB, goodB, hgood, Bool.and_true, Bool.and_eq_true, decide_eq_true_eq]
  omega
def encC (n : ByteArray) (cs : List Cls) (fs : List Flt) (d : Int) : ByteArray := if rawB n cs fs d then encV (cat n cs fs d) else ⟨#[]⟩
theorem enc_small {n : ByteArray} {cs : List Cls} {fs : List Flt} {d : Int} (h : rawB n cs fs d = true) : (encV (cat n cs fs d)).size ≤ 6000 := by
  have hb := enc_cat h
  obtain ⟨hg, hz⟩ := encB_parts hb
  have := enc_bd hg 0 _ (by omega) (Nat.le_refl _) (closed_all _) hz
  simp only [encV, hb, if_true, strU_size]
  exact this.1

theorem impl_EncodeConfig_any (n : ByteArray) (cv fv : Value) (d : Int) (cs : List Cls) (fs : List Flt) (w : World) (hk : Keys w) (hc : RdC w cv cs) (hf : RdF w fv fs) (hz : n.size + cs.length + fs.length ≤ 1048576) :
    Calls Tryd.prog 19 #[cfgV n cv fv d] w fun e w' => e = .returned (.tuple #[.string (encC n cs fs d), .bool (rawB n cs fs d)]) ∧ Ext w w' := by
  have HC := Lib.hid hc
  have HF := Lib.hid hf
  have HK := Lib.hid hk
  clear hc hf hk
  have E0 := (Ext.refl w).alloc (.cells #[.string n, cv, fv, .int .i64 d] 31)
  go_enter Tryd.func19, Tryd.ntmps19
  go_wp2_with fail
  refine (impl_ConfigAttrs_any n _ _ d cs fs _ (HK.out.ext E0) (HC.out.ext E0) (HF.out.ext E0) hz).mono ?_
  rintro e w1 ⟨u, rfl, O1, F1⟩
  have E1 := E0.trans F1
  cases hr : rawB n cs fs d
  · have HV := Lib.hid (show encC n cs fs d = ⟨#[]⟩ by simp [encC, hr])
    clear O1
    go_wp2
    go_ret2
    exact ⟨by rw [HV.out, hr]; rfl, E1⟩
  · have HV := Lib.hid (show encC n cs fs d = encV (cat n cs fs d) by simp [encC, hr])
    have HB := Lib.hid (enc_cat hr)
    have HR := Lib.hid (show RdA w1 u (cat n cs fs d) by have := Own.rd O1 Att.len; rwa [show catV n cs fs d = cat n cs fs d by simp [catV, hr]] at this)
    have HL := Lib.hid ((good_get (encB_parts (enc_cat hr)).1).1)
    clear O1
    go_wp2_with fail
    refine (impl_EncodeAttrs_any _ (cat n cs fs d) _ HR.out (by have := HL.out; omega)).mono ?_
    rintro e w2 ⟨rfl, F2⟩
    go_wp2
    go_ret2
    exact ⟨by rw [HV.out, hr, HB.out]; rfl, E1.trans F2⟩

theorem spec_enText_any (n : ByteArray) (cv fv : Value) (d : Int) (cs : List Cls) (fs : List Flt) (w : World) (hc : RdC w cv cs) (hf : RdF w fv fs) (hr : rawB n cs fs d = true) :
    Calls Tryd.prog 41 #[cfgV n cv fv d] w fun e w' => e = .returned (.string (encV (cat n cs fs d))) ∧ Ext w w' := by
  have HC := Lib.hid hc
  have HF := Lib.hid hf
  clear hc hf
  have E0 := (Ext.refl w).alloc (.cells #[.string n, cv, fv, .int .i64 d] 31)
  obtain ⟨l, hl⟩ : ∃ l, l = cat n cs fs d := ⟨_, rfl⟩
  have HB := Lib.hid (show goodB l = true ∧ preSz l l.length ≤ 6000 by rw [hl]; exact encB_parts (enc_cat hr))
  have HV := Lib.hid (show encV (cat n cs fs d) = strU (enc l 0 l.length) by rw [hl]; simp [encV, enc_cat hr])
  have hL : l.length ≤ 400 := (good_get HB.out.1).1
  have HCL := Lib.hid hl
  clear hl
  go_enter Tryd.func41, Tryd.ntmps41
  go_wp2_with fail
  refine (spec_enAttrs_any n _ _ d cs fs _ (HC.out.ext E0) (HF.out.ext E0) hr).mono ?_
  rintro e w1 ⟨u, rfl, O1, F1⟩
  have E1 := E0.trans F1
  rw [← HCL.out] at O1
  obtain ⟨A1, c1, rfl, _, _⟩ := Own.rd O1 Att.len
  have HR := Lib.hid (Own.rd O1 Att.len)
  clear O1
  go_wp2_with fail
  refine (spec_tvAll_any _ l 0 l.length _ HR.out (by omega) (by omega) (closed_all l) HB.out.1 HB.out.2).mono ?_
  rintro e w2 ⟨rfl, F2⟩
  go_wp2
  go_ret
  exact ⟨by rw [HV.out]; rfl, E1.trans F2⟩
theorem spec_EncodeConfig_any (n : ByteArray) (cv fv : Value) (d : Int) (cs : List Cls) (fs : List Flt) (w : World) (hk : Keys w) (hc : RdC w cv cs) (hf : RdF w fv fs) (hz : n.size + cs.length + fs.length ≤ 1048576) :
    Calls Tryd.prog 18 #[cfgV n cv fv d] w fun e w' => e = .returned (.tuple #[.string (encC n cs fs d), .bool (rawB n cs fs d)]) ∧ Ext w w' := by
  have HC := Lib.hid hc
  have HF := Lib.hid hf
  clear hc hf hk
  have E0 := (Ext.refl w).alloc (.cells #[.string n, cv, fv, .int .i64 d] 31)
  go_enter Tryd.func18, Tryd.ntmps18
  go_wp2_with fail
  refine (spec_enRaw_any n _ _ d cs fs _ (HC.out.ext E0) (HF.out.ext E0) (by omega) (by omega) (by omega)).mono ?_
  rintro e w1 ⟨rfl, F1⟩
  have E1 := E0.trans F1
  cases hr : rawB n cs fs d
  · have HV := Lib.hid (show encC n cs fs d = ⟨#[]⟩ by simp [encC, hr])
    go_wp2
    go_ret2
    exact ⟨by rw [HV.out, hr]; rfl, E1⟩
  · have HV := Lib.hid (show encC n cs fs d = encV (cat n cs fs d) by simp [encC, hr])
    obtain ⟨q0, q1, q2, q3, _⟩ := (Box.new w n cv fv d 31).ext F1
    go_wp2_with fail
    clear q0 q1 q2 q3
    refine (spec_enText_any n _ _ d cs fs _ (HC.out.ext E1) (HF.out.ext E1) hr).mono ?_
    rintro e w2 ⟨rfl, F2⟩
    go_wp2
    go_ret2
    exact ⟨by rw [HV.out, hr]; rfl, E1.trans F2⟩

theorem encC_small (n : ByteArray) (cs : List Cls) (fs : List Flt) (d : Int) : (encC n cs fs d).size ≤ 6000 := by
  unfold encC
  cases hr : rawB n cs fs d
  · show (⟨#[]⟩ : ByteArray).size ≤ 6000; decide
  · exact enc_small hr
theorem impl_EncodedSize_any (n : ByteArray) (cv fv : Value) (d : Int) (cs : List Cls) (fs : List Flt) (w : World) (hk : Keys w) (hc : RdC w cv cs) (hf : RdF w fv fs) (hz : n.size + cs.length + fs.length ≤ 1048576) :
    Calls Tryd.prog 21 #[cfgV n cv fv d] w fun e w' => e = .returned (.tuple #[.int .i64 (encC n cs fs d).size, .bool (rawB n cs fs d)]) ∧ Ext w w' := by
  have HC := Lib.hid hc
  have HF := Lib.hid hf
  have HK := Lib.hid hk
  clear hc hf hk
  have hs := encC_small n cs fs d
  have E0 := (Ext.refl w).alloc (.cells #[.string n, cv, fv, .int .i64 d] 31)
  go_enter Tryd.func21, Tryd.ntmps21
  go_wp2_with fail
  refine (impl_EncodeConfig_any n _ _ d cs fs _ (HK.out.ext E0) (HC.out.ext E0) (HF.out.ext E0) hz).mono ?_
  rintro e w1 ⟨rfl, F1⟩
  go_wp2
  go_ret2
  exact ⟨rfl, E0.trans F1⟩

theorem spec_EncodedSize_any (n : ByteArray) (cv fv : Value) (d : Int) (cs : List Cls) (fs : List Flt) (w : World) (hk : Keys w) (hc : RdC w cv cs) (hf : RdF w fv fs) (hz : n.size + cs.length + fs.length ≤ 1048576) :
    Calls Tryd.prog 20 #[cfgV n cv fv d] w fun e w' => e = .returned (.tuple #[.int .i64 (encC n cs fs d).size, .bool (rawB n cs fs d)]) ∧ Ext w w' := by
  have HC := Lib.hid hc
  have HF := Lib.hid hf
  clear hc hf hk
  have E0 := (Ext.refl w).alloc (.cells #[.string n, cv, fv, .int .i64 d] 31)
  go_enter Tryd.func20, Tryd.ntmps20
  go_wp2_with fail
  refine (spec_enRaw_any n _ _ d cs fs _ (HC.out.ext E0) (HF.out.ext E0) (by omega) (by omega) (by omega)).mono ?_
  rintro e w1 ⟨rfl, F1⟩
  have E1 := E0.trans F1
  cases hr : rawB n cs fs d
  · have HV := Lib.hid (show encC n cs fs d = ⟨#[]⟩ by simp [encC, hr])
    go_wp2
    go_ret2
    exact ⟨by rw [HV.out, hr]; rfl, E1⟩
  · have HV := Lib.hid (show encC n cs fs d = encV (cat n cs fs d) by simp [encC, hr])
    have hs := enc_small hr
    obtain ⟨q0, q1, q2, q3, _⟩ := (Box.new w n cv fv d 31).ext F1
    go_wp2_with fail
    clear q0 q1 q2 q3
    refine (spec_enText_any n _ _ d cs fs _ (HC.out.ext E1) (HF.out.ext E1) hr).mono ?_
    rintro e w2 ⟨rfl, F2⟩
    go_wp2
    go_ret2
    exact ⟨by rw [HV.out, hr]; rfl, E1.trans F2⟩
end Go.Proofs.YtifhjhgccknndaaDoor
