/- The text of a fault: contracts of both sides. -/
import Derived.Test.YtnamgkiealfffaaDoorPf2
import Derived.Lib.ConvBytes
namespace Go.Proofs.YtnamgkiealfffaaDoor
open Go.RowKit
set_option maxRecDepth 20000
set_option maxHeartbeats 1000000
set_option linter.unusedSimpArgs false
set_option linter.unusedVariables false

/-- What the program's text lays in the variables that the call reads. -/
structure Tabs (w : World) : Prop where
  flts : Flts w
  pow : PowTab w
  syn : ∃ tp p, w.var? Tryd.prog "strconv.ErrSyntax" = some #[.iface tp p]
  rng : ∃ tp p, w.var? Tryd.prog "strconv.ErrRange" = some #[.iface tp p]
  mx : ∃ m, w.cell? ⟨1, 0, none⟩ = some (.int .i64 m)
theorem var_ext {w w' : World} {nm : String} {cs : Array Value} (h : w.var? Tryd.prog nm = some cs) (hx : Ext w w') : w'.var? Tryd.prog nm = some cs := by
  unfold World.var? at *
  cases hg : Tryd.prog.globalNamed nm with
  | none => simp [hg] at h
  | some g =>
    simp only [hg, Option.bind_some] at h ⊢
    have hlt : g < w.heap.size := by
      rcases Nat.lt_or_ge g w.heap.size with h' | h'
      · exact h'
      · rw [Array.getElem?_eq_none h'] at h; simp at h
    rw [Ext.block hx hlt]
    exact h
theorem Tabs.ext {w w' : World} (h : Tabs w) (hx : Ext w w') : Tabs w' :=
  ⟨h.flts.ext hx, h.pow.ext hx, h.syn.imp fun _ h => h.imp fun _ h => var_ext h hx, h.rng.imp fun _ h => h.imp fun _ h => var_ext h hx, h.mx.imp fun _ h => row_ext h hx⟩
/-! ### the library -/
def cutA (s : ByteArray) : ByteArray := ⟨(Lib.cut s.data.toList [32, 97, 116, 32]).1.toArray⟩
def cutB (s : ByteArray) : ByteArray := ⟨(Lib.cut s.data.toList [32, 97, 116, 32]).2.1.toArray⟩
def cutF (s : ByteArray) : Bool := (Lib.cut s.data.toList [32, 97, 116, 32]).2.2
theorem cutB_size (s : ByteArray) : (cutB s).size ≤ s.size := by
  have h : (Lib.cut s.data.toList [32, 97, 116, 32]).2.1.length ≤ s.data.toList.length := by
    unfold Lib.cut
    split
    · show (List.drop _ _).length ≤ _
      rw [List.length_drop]
      omega
    · exact Nat.zero_le _
  have e : s.data.toList.length = s.size := by rw [Array.length_toList]; rfl
  have e2 : (cutB s).size = (Lib.cut s.data.toList [32, 97, 116, 32]).2.1.length := List.size_toArray
  rw [← e, e2]
  exact h
theorem strings_Cut_any (s : ByteArray) (w : World) (hs : s.size ≤ 1048576) (ht : Tabs w) :
    Calls Tryd.prog 31 #[.string s, .string ⟨#[32, 97, 116, 32]⟩] w fun e w' => e = .returned (.tuple #[.string (cutA s), .string (cutB s), .bool (cutF s)]) ∧ Ext w w' := by
  obtain ⟨m, hm⟩ := ht.mx
  refine (Any.strings_Cut { Tryd.laysM145 with } s ⟨#[32, 97, 116, 32]⟩ m w (by omega) hm).mono ?_
  rintro e w' ⟨rfl, n, rfl⟩
  exact ⟨rfl, (Ext.refl w).drewN n⟩
theorem strconv_Atoi_any (s : ByteArray) (w : World) (hs : s.size ≤ 1048576) (ht : Tabs w) :
    Calls Tryd.prog 33 #[.string s] w fun e w' => ∃ (v : Int) (err : Value), e = .returned (.tuple #[.int .i64 v, err]) ∧ ((err = .nilIface ∧ Lib.atoiAll s.data.toList = .ok v ∧ -9223372036854775808 ≤ v ∧ v ≤ 9223372036854775807) ∨ ((∃ t p, err = .iface t (.pointer (some p))) ∧ ∀ v, Lib.atoiAll s.data.toList ≠ .ok v)) ∧ Ext w w' := by
  obtain ⟨t1, p1, h1⟩ := ht.syn
  obtain ⟨t2, p2, h2⟩ := ht.rng
  cases h : Lib.atoiAll s.data.toList with
  | ok v =>
    refine (Any.strconv_Atoi_ok Tryd.laysC172 s (by omega) v h w).mono ?_
    rintro e w' ⟨rfl, hw⟩
    refine ⟨v, .nilIface, rfl, .inl ⟨rfl, rfl, (Lib.atoiAll_bounds h).1, (Lib.atoiAll_bounds h).2⟩, ?_⟩
    rcases hw with rfl | ⟨t, rfl⟩
    · exact Ext.refl _
    · exact Lib.bytesWorld_below _ _ _
  | «syntax» =>
    refine (Any.strconv_Atoi_syntax_var Tryd.laysC172 s (by omega) h t1 p1 w h1).mono ?_
    rintro e w' ⟨N, rfl, _, _, hb⟩
    exact ⟨_, _, rfl, .inr ⟨⟨_, _, rfl⟩, fun v hv => by cases hv⟩, hb⟩
  | range =>
    refine (Any.strconv_Atoi_range_var Tryd.laysC172 s (by omega) h t2 p2 w h2).mono ?_
    rintro e w' ⟨N, rfl, _, _, hb⟩
    exact ⟨_, _, rfl, .inr ⟨⟨_, _, rfl⟩, fun v hv => by cases hv⟩, hb⟩
theorem isF_parts {s : ByteArray} {k n : Int} (h : IsF s k n) : ∃ j : Nat, k = (j : Int) ∧ j < 8 ∧ 0 ≤ n ∧ n ≤ 6000 ∧ goodF k n = true ∧ s = shw j n ∧ cutA s = nmK j ∧ cutB s = dec n ∧ cutF s = true ∧ Lib.atoiAll (cutB s).data.toList = .ok n := by
  obtain ⟨hg, hs⟩ := h
  have hg' := hg
  simp only [goodF, Bool.and_eq_true, inR_iff] at hg'
  obtain ⟨⟨a0, a1⟩, b0, b1⟩ := hg'
  have hc := cut_shw (k := k.toNat) (by omega) n
  rw [← hs] at hc
  have hB : cutB s = dec n := by unfold cutB; rw [hc]
  refine ⟨k.toNat, by omega, by omega, b0, b1, hg, hs, by unfold cutA; rw [hc], hB, by unfold cutF; rw [hc], ?_⟩
  rw [hB]
  exact atoi_dec b0 b1
theorem isF_split {s : ByteArray} {k n : Int} (h : IsF s k n) : ∃ j : Nat, k = (j : Int) ∧ j < 8 ∧ (splitL s.data.toList).map mkB = [nmK j, ⟨#[97, 116]⟩, dec n] ∧ rdV (dec n) = n ∧ goodF k n = true ∧ s = shw j n := by
  obtain ⟨j, rfl, hj, b0, b1, hg, hs, _⟩ := isF_parts h
  refine ⟨j, rfl, hj, ?_, rdV_dec b0 b1, hg, hs⟩
  rw [hs, split_shw hj n]
  rfl
/-- What both sides answer. -/
def AnsF (s : ByteArray) (w : World) (e : Ending) (w' : World) : Prop :=
  ∃ (k n : Int) (ok : Bool), e = .returned (.tuple #[fltV k n, .bool ok]) ∧ ((ok = true ∧ IsF s k n) ∨ (ok = false ∧ k = 0 ∧ n = 0 ∧ ∀ k n, ¬ IsF s k n)) ∧ Ext w w'
theorem impl_ParseFault_any (s : ByteArray) (w : World) (hs : s.size ≤ 1048576) (ht : Tabs w) :
    Calls Tryd.prog 13 #[.string s] w (AnsF s w) := by
  have HT := Lib.hid ht
  clear ht
  have hB := cutB_size s
  have BX := Lib.hid (Blk.new w 36 #[.int .i64 0, .int .i64 0])
  have E0 := (Ext.refl w).alloc (.cells #[.int .i64 0, .int .i64 0] 36)
  go_enter Tryd.func13, Tryd.ntmps13
  go_wp2_with fail
  refine (strings_Cut_any _ _ hs (HT.out.ext (by (repeat (first | (with_reducible exact Ext.refl _) | (with_reducible assumption) | (with_reducible apply Ext.alloc) | (with_reducible apply Ext.drew) | (with_reducible apply Ext.drewN) | ((with_reducible refine Ext.setCell ?_ ?_ _); rotate_left; (focus (first | (simp; done) | (simp; omega) | omega))) | (with_reducible refine Ext.trans ?_ (by assumption))))))).mono ?_
  rintro e w1 ⟨rfl, F1⟩
  have E1 := E0.trans F1
  go_wp2_with fail
  refine (impl_KindNamed_any _ _ (HT.out.ext E1).flts).mono ?_
  rintro e w2 ⟨r, known, rfl, hkn, F2⟩
  have G2 := F1.trans F2
  have E2 := E0.trans G2
  have HKN := Lib.hid hkn
  clear hkn
  go_wp2_with fail
  refine (strconv_Atoi_any _ _ (by omega) (HT.out.ext E2)).mono ?_
  rintro e w3 ⟨v, err, rfl, hat, F3⟩
  have G3 := G2.trans F3
  have E3 := E0.trans G3
  have HAT := Lib.hid hat
  clear hat
  obtain ⟨x0, x1, x2⟩ := bc2 (BX.out.ext G3)
  have z0 := Blk.frozen (BX.out.ext G3) 0
  have z1 := Blk.frozen (BX.out.ext G3) 1
  cases hcf : cutF s
  · have HNO := Lib.hid (show ∀ k n, ¬ IsF s k n by
      intro k n h
      obtain ⟨j, _, _, _, _, _, _, _, _, h9, _⟩ := isF_parts h
      rw [hcf] at h9
      cases h9)
    go_wp2
    refine bodyPost_ret (v := .tuple #[fltV 0 0, .bool false]) (by simp [results, Tryd.results13, go_sem, *]) rfl ?_
    exact ⟨0, 0, false, rfl, .inr ⟨rfl, rfl, rfl, HNO.out⟩, by (repeat (first | (with_reducible exact Ext.refl _) | (with_reducible assumption) | (with_reducible apply Ext.alloc) | (with_reducible apply Ext.drew) | (with_reducible apply Ext.drewN) | ((with_reducible refine Ext.setCell ?_ ?_ _); rotate_left; (focus (first | (simp; done) | (simp; omega) | omega))) | (with_reducible refine Ext.trans ?_ (by assumption))))⟩
  rcases HKN.out with ⟨j, hj, rfl, rfl, hnm⟩ | ⟨rfl, hno⟩
  rotate_left
  · have HNO := Lib.hid (show ∀ k n, ¬ IsF s k n by
      intro k n h
      obtain ⟨j, _, hj, _, _, _, _, h7, _, _, _⟩ := isF_parts h
      exact hno j hj h7.symm)
    clear hno
    go_wp2
    refine bodyPost_ret (v := .tuple #[fltV 0 0, .bool false]) (by simp [results, Tryd.results13, go_sem, *]) rfl ?_
    exact ⟨0, 0, false, rfl, .inr ⟨rfl, rfl, rfl, HNO.out⟩, by (repeat (first | (with_reducible exact Ext.refl _) | (with_reducible assumption) | (with_reducible apply Ext.alloc) | (with_reducible apply Ext.drew) | (with_reducible apply Ext.drewN) | ((with_reducible refine Ext.setCell ?_ ?_ _); rotate_left; (focus (first | (simp; done) | (simp; omega) | omega))) | (with_reducible refine Ext.trans ?_ (by assumption))))⟩
  rcases HAT.out with ⟨rfl, hv, v0, v1⟩ | ⟨⟨et, ep, rfl⟩, hno⟩
  rotate_left
  · have HNO := Lib.hid (show ∀ k n, ¬ IsF s k n by
      intro k n h
      obtain ⟨j, _, hj, _, _, _, _, _, _, _, h10⟩ := isF_parts h
      exact hno _ h10)
    clear hno
    go_wp2
    refine bodyPost_ret (v := .tuple #[fltV 0 0, .bool false]) (by simp [results, Tryd.results13, go_sem, *]) rfl ?_
    exact ⟨0, 0, false, rfl, .inr ⟨rfl, rfl, rfl, HNO.out⟩, by (repeat (first | (with_reducible exact Ext.refl _) | (with_reducible assumption) | (with_reducible apply Ext.alloc) | (with_reducible apply Ext.drew) | (with_reducible apply Ext.drewN) | ((with_reducible refine Ext.setCell ?_ ?_ _); rotate_left; (focus (first | (simp; done) | (simp; omega) | omega))) | (with_reducible refine Ext.trans ?_ (by assumption))))⟩
  have HNM := Lib.hid hnm
  have HV := Lib.hid hv
  clear hnm hv
  have HU := Lib.hid (show ∀ k n, IsF s k n → k = (j : Int) ∧ n = v ∧ goodF j v = true ∧ s = shw j v by
    intro k n h
    obtain ⟨i, hk, hi, _, _, h5, h6, h7, _, _, h10⟩ := isF_parts h
    have e1 : i = j := nmK_inj hi hj (h7.symm.trans HNM.out.symm)
    have e2 : n = v := by
      have := h10.symm.trans HV.out
      injection this
    subst e1 e2
    exact ⟨hk, rfl, by rw [← hk]; exact h5, h6⟩)
  have hj7 : (j : Int) < 8 := by omega
  cases hg : goodF j v
  · have HNO := Lib.hid (show ∀ k n, ¬ IsF s k n by
      intro k n h
      have := (HU.out k n h).2.2.1
      rw [hg] at this
      cases this)
    have HG := Lib.hid hg
    clear hg
    go_wp2_with fail
    refine (impl_FaultText_bad _ _ _ HG.out).mono ?_
    rintro e w4 ⟨rfl, F4⟩
    have G4 := (G3.alloc (.cells #[.int .i64 (j : Int), .int .i64 v] 36)).trans F4
    have E4 := E0.trans G4
    clear x0 x1 x2 z0 z1
    obtain ⟨x0, x1, x2⟩ := bc2 (BX.out.ext G4)
    have z0 := Blk.frozen (BX.out.ext G4) 0
    have z1 := Blk.frozen (BX.out.ext G4) 1
    go_wp2
    refine bodyPost_ret (v := .tuple #[fltV 0 0, .bool false]) (by simp [results, Tryd.results13, go_sem, *]) rfl ?_
    exact ⟨0, 0, false, rfl, .inr ⟨rfl, rfl, rfl, HNO.out⟩, by (repeat (first | (with_reducible exact Ext.refl _) | (with_reducible assumption) | (with_reducible apply Ext.alloc) | (with_reducible apply Ext.drew) | (with_reducible apply Ext.drewN) | ((with_reducible refine Ext.setCell ?_ ?_ _); rotate_left; (focus (first | (simp; done) | (simp; omega) | omega))) | (with_reducible refine Ext.trans ?_ (by assumption))))⟩
  · have HG := Lib.hid hg
    clear hg
    have BY := Lib.hid (Blk.new w3 36 #[.int .i64 (j : Int), .int .i64 v])
    go_wp2_with fail
    refine (impl_FaultText_good _ _ _ HG.out (HT.out.ext (E3.alloc _)).flts (HT.out.ext (E3.alloc _)).pow).mono ?_
    rintro e w4 ⟨rfl, F4⟩
    have G4 := (G3.alloc (.cells #[.int .i64 (j : Int), .int .i64 v] 36)).trans F4
    have E4 := E0.trans G4
    clear x0 x1 x2 z0 z1
    obtain ⟨x0, x1, x2⟩ := bc2 (BX.out.ext G4)
    have z0 := Blk.frozen (BX.out.ext G4) 0
    have z1 := Blk.frozen (BX.out.ext G4) 1
    obtain ⟨y0, y1, y2⟩ := bc2 (BY.out.ext F4)
    cases he : ((shw j v).toList == s.toList)
    · have HNO := Lib.hid (show ∀ k n, ¬ IsF s k n by
        intro k n h
        exact ne_toList.1 he (HU.out k n h).2.2.2.symm)
      go_wp2
      refine bodyPost_ret (v := .tuple #[fltV 0 0, .bool false]) (by simp [results, Tryd.results13, go_sem, *]) rfl ?_
      exact ⟨0, 0, false, rfl, .inr ⟨rfl, rfl, rfl, HNO.out⟩, by (repeat (first | (with_reducible exact Ext.refl _) | (with_reducible assumption) | (with_reducible apply Ext.alloc) | (with_reducible apply Ext.drew) | (with_reducible apply Ext.drewN) | ((with_reducible refine Ext.setCell ?_ ?_ _); rotate_left; (focus (first | (simp; done) | (simp; omega) | omega))) | (with_reducible refine Ext.trans ?_ (by assumption))))⟩
    · have HYES := Lib.hid (show IsF s (j : Int) v from ⟨HG.out, by rw [Int.toNat_natCast]; exact (eq_toList.1 he).symm⟩)
      go_wp2
      refine bodyPost_ret (v := .tuple #[fltV j v, .bool true]) (by simp [results, Tryd.results13, go_sem, *]) rfl ?_
      exact ⟨_, _, true, rfl, .inl ⟨rfl, HYES.out⟩, by (repeat (first | (with_reducible exact Ext.refl _) | (with_reducible assumption) | (with_reducible apply Ext.alloc) | (with_reducible apply Ext.drew) | (with_reducible apply Ext.drewN) | ((with_reducible refine Ext.setCell ?_ ?_ _); rotate_left; (focus (first | (simp; done) | (simp; omega) | omega))) | (with_reducible refine Ext.trans ?_ (by assumption))))⟩
end Go.Proofs.YtnamgkiealfffaaDoor
