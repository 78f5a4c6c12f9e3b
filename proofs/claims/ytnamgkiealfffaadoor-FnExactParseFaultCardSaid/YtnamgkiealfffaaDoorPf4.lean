/- The text of a fault: the reference's own way. -/
import Derived.Test.YtnamgkiealfffaaDoorPf3
namespace Go.Proofs.YtnamgkiealfffaaDoor
open Go.RowKit
set_option maxRecDepth 20000
set_option maxHeartbeats 1000000
set_option linter.unusedSimpArgs false
set_option linter.unusedVariables false

theorem splitL_le : ∀ (l : List UInt8), ∀ p ∈ splitL l, p.length ≤ l.length
  | [], p, hp => by simp [splitL] at hp; simp [hp]
  | c :: r, p, hp => by
    have ih := splitL_le r
    rw [splitL] at hp
    split at hp
    · rcases List.mem_cons.1 hp with h | h
      · rw [h]; exact Nat.zero_le _
      · exact Nat.le_succ_of_le (ih p h)
    · split at hp
      · rename_i he
        simp at hp
        rw [hp]
        simp
      · rename_i h t he
        rcases List.mem_cons.1 hp with h1 | h1
        · rw [h1]
          have := ih h (by rw [he]; simp)
          simpa using this
        · exact Nat.le_succ_of_le (ih p (by rw [he]; simp [h1]))
theorem Blk.drew {W : World} {g : Nat} {e : TypeId} {cs : Array Value} (h : Blk W g e cs) : Blk W.drew g e cs := h.ext (Ext.refl W).drew
theorem Blk.set2 {w : World} {g : Nat} {T : TypeId} {a0 a1 : Value} (h : Blk w g T #[a0, a1]) (u0 u1 : Value) : Blk ((w.setCell ⟨g, 0, none⟩ u0).setCell ⟨g, 1, none⟩ u1) g T #[u0, u1] := (h.set_ 0 u0).set_ 1 u1
theorem spec_ParseFault_any (s : ByteArray) (w : World) (hs : s.size ≤ 1048576) :
    Calls Tryd.prog 12 #[.string s] w (AnsF s w) := by
  have BX := Lib.hid (Blk.new w 36 #[.int .i64 0, .int .i64 0])
  have E0 := (Ext.refl w).alloc (.cells #[.int .i64 0, .int .i64 0] 36)
  have HSP := Lib.hid (fun k n => isF_split (s := s) (k := k) (n := n))
  have HLE : Hid (∀ x ∈ (splitL s.data.toList).map mkB, x.size ≤ 1048576) := by
    intro x hx
    obtain ⟨p, hp, rfl⟩ := List.mem_map.1 hx
    have h1 := splitL_le _ p hp
    have h2 : s.data.toList.length = s.size := by rw [Array.length_toList]; rfl
    have h3 : (mkB p).size = p.length := List.size_toArray
    omega
  go_enter Tryd.func12, Tryd.ntmps12
  go_wp2_with fail
  refine (spec_l1Split_any s _ hs).mono ?_
  rintro e w1 ⟨u, rfl, hu, F1⟩
  generalize hW : (splitL s.data.toList).map mkB = W at hu HLE
  have HWE := Lib.hid hW
  clear hW
  obtain ⟨A, c, rfl, hc, hrd⟩ := Own.rd hu scell_len
  have HRD := Lib.hid hrd
  clear hrd hu
  have E1 := E0.trans F1
  obtain ⟨x0, x1, x2⟩ := bc2 (BX.out.ext F1)
  have z0 := Blk.frozen (BX.out.ext F1) 0
  have z1 := Blk.frozen (BX.out.ext F1) 1
  by_cases h3 : W.length = 3
  rotate_left
  · have HNO := Lib.hid (show ∀ k n, ¬ IsF s k n by
      intro k n h
      obtain ⟨j, _, _, h4, _⟩ := HSP.out k n h
      rw [HWE.out] at h4
      exact h3 (by rw [h4]; rfl))
    have h3' : ¬ ((W.length : Int) = 3) := by omega
    have h3'' : ((W.length : Int) != 3) = true := by simpa using h3'
    clear h3 h3'
    go_wp2
    refine bodyPost_ret (v := .tuple #[fltV 0 0, .bool false]) (by simp [results, Tryd.results12, go_sem, *]) rfl ?_
    exact ⟨0, 0, false, rfl, .inr ⟨rfl, rfl, rfl, HNO.out⟩, by (repeat (first | (with_reducible exact Ext.refl _) | (with_reducible assumption) | (with_reducible apply Ext.alloc) | (with_reducible apply Ext.drew) | (with_reducible apply Ext.drewN) | ((with_reducible refine Ext.setCell ?_ ?_ _); rotate_left; (focus (first | (simp; done) | (simp; omega) | omega))) | (with_reducible refine Ext.trans ?_ (by assumption))))⟩
  obtain ⟨x, y, z, rfl⟩ : ∃ x y z, W = [x, y, z] := by
    match W, h3 with
    | [x, y, z], _ => exact ⟨x, y, z, rfl⟩
  have hz := HLE.out z (by simp)
  clear h3
  obtain ⟨b, o, rfl, hb, hcx⟩ := HRD.out 0 x rfl
  obtain ⟨b', o', hbo, _, hcz⟩ := HRD.out 2 z rfl
  simp only [Option.some.injEq, Addr.mk.injEq, and_true] at hbo
  obtain ⟨rfl, rfl⟩ := hbo
  have c0 : w1.cell? ⟨b, o, none⟩ = some (.string x) := by simpa using hcx 0 _ rfl
  have c2 : w1.cell? ⟨b, o + 2, none⟩ = some (.string z) := by simpa using hcz 0 _ rfl
  have C0 := Lib.hid c0
  have C2 := Lib.hid c2
  clear hcx hcz HRD
  have hn1 : ¬ w1.heap.size = b := by omega
  have hl3 : (([x, y, z].length : Nat) : Int) = 3 := rfl
  go_upto_region 4 with fail
  go_cut [5] (fun s5 wx => ∃ (g : Nat) (r : Int), s5 = .pointer (some ⟨g, 0, none⟩) ∧ Hid (Blk wx g 36 #[.int .i64 r, .int .i64 (rdV z)]) ∧ Hid ((∃ j : Nat, j < 8 ∧ r = (j : Int) ∧ nmK j = x) ∨ (r = -1 ∧ ∀ j, j < 8 → nmK j ≠ x)) ∧ w1.heap.size ≤ g ∧ Ext w1 wx)
  case first =>
    go_region_held3 (fun w' => w'.cell? ⟨b, o, none⟩ = some (.string x) ∧ w'.cell? ⟨b, o + 2, none⟩ = some (.string z)) (first | (with_reducible exact ⟨c0, c2⟩) | (with_reducible exact ⟨d0, d2⟩) | (with_reducible exact ⟨f0, f2⟩) | go_keep)
      (first | (go_at_call 27; refine (spec_erNamed_any _ _).mono ?_; rintro e w2 ⟨r, rfl, hr, F2⟩; have HR := Lib.hid hr; clear hr; have D2 : Ext w1 w2 := (by (repeat (first | (with_reducible exact Ext.refl _) | (with_reducible assumption) | (with_reducible apply Ext.alloc) | (with_reducible apply Ext.drew) | (with_reducible apply Ext.drewN) | ((with_reducible refine Ext.setCell ?_ ?_ _); rotate_left; (focus (first | (simp; done) | (simp; omega) | omega))) | (with_reducible refine Ext.trans ?_ (by assumption))))); have d0 := row_ext C0.out D2; have d2 := row_ext C2.out D2; have hs2 := Ext.size D2; have n2 : ¬ w2.heap.size = b := (by omega)) | (go_at_call 28; refine (spec_l1Read_any _ _ hz).mono ?_; rintro e w3 ⟨rfl, F3⟩; have D3 : Ext w1 w3 := (by (repeat (first | (with_reducible exact Ext.refl _) | (with_reducible assumption) | (with_reducible apply Ext.alloc) | (with_reducible apply Ext.drew) | (with_reducible apply Ext.drewN) | ((with_reducible refine Ext.setCell ?_ ?_ _); rotate_left; (focus (first | (simp; done) | (simp; omega) | omega))) | (with_reducible refine Ext.trans ?_ (by assumption))))); have f0 := row_ext C0.out D3; have f2 := row_ext C2.out D3; have hs3 := Ext.size D3; have n3 : ¬ w3.heap.size = b := (by omega); (first | (have TB : Blk w3 w2.heap.size 36 #[.int .i64 0, .int .i64 0] := Blk.ext (w := w2.alloc (.cells #[.int .i64 0, .int .i64 0] 36)) (Blk.new w2 36 #[.int .i64 0, .int .i64 0]) (by with_reducible assumption); obtain ⟨y0, y1, y2⟩ := bc2 TB; have v0 := TB.frozen 0; have v1 := TB.frozen 1) | (have TB : Blk w3 w1.heap.size 36 #[.int .i64 0, .int .i64 0] := Blk.ext (w := w2) (Blk.ext (w := (w1.alloc (.cells #[.int .i64 0, .int .i64 0] 36)).drew) (Blk.drew (Blk.new w1 36 #[.int .i64 0, .int .i64 0])) (by with_reducible assumption)) (by with_reducible assumption); obtain ⟨y0, y1, y2⟩ := bc2 TB; have v0 := TB.frozen 0; have v1 := TB.frozen 1) | skip)))
    · go_wp2_with fail
      go_meet
      exact ⟨w3.heap.size, r, rfl, Lib.hid (Blk.new _ _ _), HR, by omega, D3.alloc _⟩
    all_goals
      go_wp2_with fail
      go_meet
      exact ⟨_, r, rfl, Lib.hid (Blk.set2 TB _ _), HR, by omega, by (repeat (first | (with_reducible exact Ext.refl _) | (with_reducible assumption) | (with_reducible apply Ext.alloc) | (with_reducible apply Ext.drew) | (with_reducible apply Ext.drewN) | ((with_reducible refine Ext.setCell ?_ ?_ _); rotate_left; (focus (first | (simp; done) | (simp; omega) | omega))) | (with_reducible refine Ext.trans ?_ (by assumption))))⟩
  obtain ⟨g5, r, rfl, Z5, HR5, hg5, F5⟩ := hcut
  obtain ⟨w5, rfl⟩ : ∃ w5 : World, w5 = wc := ⟨_, rfl⟩
  have G5 := F1.trans F5
  have E5 := E0.trans G5
  clear x0 x1 x2 z0 z1 c0 c2
  have HU := Lib.hid (show ∀ k n, IsF s k n → k = r ∧ n = rdV z ∧ goodF r (rdV z) = true ∧ s = shw r.toNat (rdV z) by
    intro k n h
    obtain ⟨j, hk, hj, h4, h5, h6, h7⟩ := HSP.out k n h
    rw [HWE.out] at h4
    simp only [List.cons.injEq, and_true] at h4
    obtain ⟨e1, _, e3⟩ := h4
    have e4 : rdV z = n := by rw [e3]; exact h5
    have e5 : r = (j : Int) := by
      rcases HR5.out with ⟨i, hi, hri, hni⟩ | ⟨_, hno⟩
      · have : i = j := nmK_inj hi hj (hni.trans e1)
        rw [hri, this]
      · exact absurd e1.symm (hno j hj)
    rw [e4, e5]
    exact ⟨hk, rfl, by rw [← hk]; exact h6, by rw [Int.toNat_natCast]; exact h7⟩)
  have hg5l := Z5.out.lt
  obtain ⟨y0, y1, y2⟩ := bc2 Z5.out
  cases hg : goodF r (rdV z)
  · have HNO := Lib.hid (show ∀ k n, ¬ IsF s k n by
      intro k n h
      have := (HU.out k n h).2.2.1
      rw [hg] at this
      cases this)
    have HG := Lib.hid hg
    clear hg
    go_wp2_with fail
    refine (spec_erGood_any _ _ _).mono ?_
    rintro e w6 ⟨rfl, F6⟩
    rw [HG.out]
    have G6 := G5.trans F6
    have E6 := E0.trans G6
    clear y0 y1 y2
    obtain ⟨x0, x1, x2⟩ := bc2 (BX.out.ext G6)
    have z0 := Blk.frozen (BX.out.ext G6) 0
    have z1 := Blk.frozen (BX.out.ext G6) 1
    go_wp2
    refine bodyPost_ret (v := .tuple #[fltV 0 0, .bool false]) (by simp [results, Tryd.results12, go_sem, *]) rfl ?_
    exact ⟨0, 0, false, rfl, .inr ⟨rfl, rfl, rfl, HNO.out⟩, by (repeat (first | (with_reducible exact Ext.refl _) | (with_reducible assumption) | (with_reducible apply Ext.alloc) | (with_reducible apply Ext.drew) | (with_reducible apply Ext.drewN) | ((with_reducible refine Ext.setCell ?_ ?_ _); rotate_left; (focus (first | (simp; done) | (simp; omega) | omega))) | (with_reducible refine Ext.trans ?_ (by assumption))))⟩
  · obtain ⟨j, hj, rfl⟩ : ∃ j : Nat, j < 8 ∧ r = (j : Int) := by
      rcases HR5.out with ⟨i, hi, hri, _⟩ | ⟨h1, _⟩
      · exact ⟨i, hi, hri⟩
      · rw [h1] at hg
        simp [goodF, inR] at hg
    have hg' := hg
    simp only [goodF, Bool.and_eq_true, inR_iff] at hg'
    obtain ⟨⟨a0, a1⟩, b0, b1⟩ := hg'
    have HG := Lib.hid hg
    clear hg
    go_wp2_with fail
    refine (spec_erGood_any _ _ _).mono ?_
    rintro e w6 ⟨rfl, F6⟩
    rw [HG.out]
    clear y0 y1 y2
    obtain ⟨y0, y1, y2⟩ := bc2 (Z5.out.ext F6)
    have G6 := G5.trans F6
    go_wp2_with fail
    refine (spec_erShow_any j _ _ hj b0 b1).mono ?_
    rintro e w7 ⟨rfl, F7⟩
    have G7 := G6.trans F7
    have E7 := E0.trans G7
    clear y0 y1 y2
    obtain ⟨y0, y1, y2⟩ := bc2 (Z5.out.ext (F6.trans F7))
    obtain ⟨x0, x1, x2⟩ := bc2 (BX.out.ext G7)
    have z0 := Blk.frozen (BX.out.ext G7) 0
    have z1 := Blk.frozen (BX.out.ext G7) 1
    cases he : ((shw j (rdV z)).toList == s.toList)
    · have HNO := Lib.hid (show ∀ k n, ¬ IsF s k n by
        intro k n h
        refine ne_toList.1 he ?_
        have := (HU.out k n h).2.2.2
        rw [Int.toNat_natCast] at this
        exact this.symm)
      go_wp2
      refine bodyPost_ret (v := .tuple #[fltV 0 0, .bool false]) (by simp [results, Tryd.results12, go_sem, *]) rfl ?_
      exact ⟨0, 0, false, rfl, .inr ⟨rfl, rfl, rfl, HNO.out⟩, by (repeat (first | (with_reducible exact Ext.refl _) | (with_reducible assumption) | (with_reducible apply Ext.alloc) | (with_reducible apply Ext.drew) | (with_reducible apply Ext.drewN) | ((with_reducible refine Ext.setCell ?_ ?_ _); rotate_left; (focus (first | (simp; done) | (simp; omega) | omega))) | (with_reducible refine Ext.trans ?_ (by assumption))))⟩
    · have HYES := Lib.hid (show IsF s (j : Int) (rdV z) from ⟨HG.out, by rw [Int.toNat_natCast]; exact (eq_toList.1 he).symm⟩)
      go_wp2
      refine bodyPost_ret (v := .tuple #[fltV j (rdV z), .bool true]) (by simp [results, Tryd.results12, go_sem, *]) rfl ?_
      exact ⟨_, _, true, rfl, .inl ⟨rfl, HYES.out⟩, by (repeat (first | (with_reducible exact Ext.refl _) | (with_reducible assumption) | (with_reducible apply Ext.alloc) | (with_reducible apply Ext.drew) | (with_reducible apply Ext.drewN) | ((with_reducible refine Ext.setCell ?_ ?_ _); rotate_left; (focus (first | (simp; done) | (simp; omega) | omega))) | (with_reducible refine Ext.trans ?_ (by assumption))))⟩
end Go.Proofs.YtnamgkiealfffaaDoor
