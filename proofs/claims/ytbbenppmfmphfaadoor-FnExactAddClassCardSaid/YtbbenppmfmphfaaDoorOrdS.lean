/- One put into a list: contracts of the reference's side. Printed by wip/tools/gen_ord.py. -/
import Derived.Test.YtbbenppmfmphfaaDoorOrdP
import Derived.Deep.RegionHeld3
namespace Go.Proofs.YtbbenppmfmphfaaDoor
open Go.RowKit
set_option maxRecDepth 20000
set_option maxHeartbeats 1000000
set_option linter.unusedSimpArgs false
set_option linter.unusedVariables false

theorem blkN_new {W : World} {g : Nat} {e : TypeId} {cs : Array Value} (h : g = W.heap.size) : Blk (W.alloc (.cells cs e)) g e cs := by
  subst h
  exact Blk.new _ _ _
theorem Own.form {α : Type} {w : World} {base : Nat} {e : TypeId} {k : Nat} {cells : α → List Value} {v : Value} {l : List α} (h : Own w base e k cells v l) (hk : ∀ x, (cells x).length = k) : ∃ A n c, v = .slice A n c := by
  obtain ⟨A, c, hv, _⟩ := Own.rd h hk
  exact ⟨A, _, c, hv⟩
theorem bcC {w : World} {g : Nat} {T : TypeId} {a0 a1 a2 a3 a4 a5 a6 a7 : Value} (h : Blk w g T #[a0, a1, a2, a3, a4, a5, a6, a7]) : w.cell? ⟨g, 0, none⟩ = some a0 ∧ w.cell? ⟨g, 1, none⟩ = some a1 ∧ w.cell? ⟨g, 2, none⟩ = some a2 ∧ w.cell? ⟨g, 3, none⟩ = some a3 ∧ w.cell? ⟨g, 4, none⟩ = some a4 ∧ w.cell? ⟨g, 5, none⟩ = some a5 ∧ w.cell? ⟨g, 6, none⟩ = some a6 ∧ w.cell? ⟨g, 7, none⟩ = some a7 ∧ g < w.heap.size := by
  have hl := h.lt
  unfold Blk at h
  exact ⟨by simp [World.cell?, h], by simp [World.cell?, h], by simp [World.cell?, h], by simp [World.cell?, h], by simp [World.cell?, h], by simp [World.cell?, h], by simp [World.cell?, h], by simp [World.cell?, h], hl⟩
/-- 'append(own, src...)' as a step of a region that draws its order, from world W0 on. -/
theorem step_appC {ops : Array Oper} {o : Oper} {a : Act} {K : Act → World → Prop} {Q : Exit → Act → World → Prop} {EE : Prop} (W0 : World) (wr : World) (hg : o.guard = none) (s x : Operand)
    (ho : o.op = .call { callee := .builtin .append, args := #[s, x], argTypes := #[29, 29] }) (v y : Value) (l ys : List Cls) (hs : a.eval s = v) (hx : a.eval x = y)
    (hsrc : SrcC wr y ys) (hown : OwnC wr W0.heap.size v l) (hn : l.length + ys.length ≤ 100000000) (hE : Ext W0 wr)
    (hK : ∀ A n c w', OwnC w' W0.heap.size (.slice A n c) (l ++ ys) → Ext W0 w' → K (a.put o.dst (.slice A n c)) w') :
    if Region.wanted o (yielded ops a.tmps) = true then Oper.wp Tryd.prog o a wr K Q else EE := by
  obtain ⟨i0, ii0, ii1, ii2, ii3⟩ := info_parts info_Class
  refine step_own_src Tryd.underlying29 ii0 ii1 ii2 ii3 rfl (by omega) (by omega) Cls.len cls_one W0.heap.size wr hg s x ho v y l ys hs hx hsrc hown hn (Ext.size hE) ?_
  intro v' w' ho' hgr
  obtain ⟨A, n, c, rfl⟩ := Own.form ho' Cls.len
  exact hK A n c w' ho' (Ext.grown hE hgr (fun k hk => (Own.lt hown k hk).1))
theorem src_oneC {w : World} {g : Nat} {x : Cls} (h : Blk w g 36 #[.int .i64 x.id, .int .i64 x.parent, .int .i64 x.rate, .int .i64 x.ceil, .int .i64 x.burst, .int .i64 x.cburst, .int .i64 x.prio, .int .i64 x.limit]) : SrcC w (.slice (some ⟨g, 0, none⟩) 1 1) [x] := by
  refine .inr ⟨g, 0, 1, rfl, Nat.le_refl _, by unfold maxLen; omega, fun i y hi => ?_⟩
  match i, hi with
  | 0, hi =>
    simp at hi
    subst hi
    refine ⟨h.lt, fun j u hu => ?_⟩
    unfold Blk at h
    simp only [Nat.zero_mul, Nat.zero_add, World.cell?, h, Option.isSome_none, Bool.false_eq_true, if_false]
    simpa [Cls.cells] using hu
/-- What putting one into a list leaves. -/
def PutAnsC (l : List Cls) (x : Cls) (w : World) (e : Ending) (w' : World) : Prop :=
  ∃ A n c l', e = .returned (.slice A n c) ∧ OwnC w' w.heap.size (.slice A n c) l' ∧ l'.Perm (x :: l) ∧ (Asc (fun x : Cls => x.id) l → Asc (fun x : Cls => x.id) l') ∧ Ext w w'
theorem putC_nil (x : Cls) (w : World) : Calls Tryd.prog 20 #[.slice none 0 0, clsV x] w (PutAnsC [] x w) := by
  have E0 : Ext w (w.alloc (.cells #[.int .i64 x.id, .int .i64 x.parent, .int .i64 x.rate, .int .i64 x.ceil, .int .i64 x.burst, .int .i64 x.cburst, .int .i64 x.prio, .int .i64 x.limit] 36)) := by (repeat (first | (with_reducible exact Ext.refl _) | (with_reducible assumption) | (with_reducible apply Ext.alloc) | (with_reducible apply Ext.drew) | (with_reducible apply Ext.drewN) | ((with_reducible refine Ext.setCell ?_ ?_ _); rotate_left; (focus (first | (simp; done) | (simp; omega) | omega))) | (with_reducible refine Ext.trans ?_ (by assumption))))
  have BX := Lib.hid (Blk.new w 36 #[.int .i64 x.id, .int .i64 x.parent, .int .i64 x.rate, .int .i64 x.ceil, .int .i64 x.burst, .int .i64 x.cburst, .int .i64 x.prio, .int .i64 x.limit])
  obtain ⟨lk, hlk⟩ : ∃ lk : List Cls, lk = [] := ⟨_, rfl⟩
  obtain ⟨ld, hld⟩ : ∃ ld : List Cls, ld = [] := ⟨_, rfl⟩
  have HST := Lib.hid (show SrcC w (.slice none 0 0) lk from .inl ⟨rfl, hlk⟩)
  have HSD := Lib.hid (show SrcC w (.slice none 0 0) ld from .inl ⟨rfl, hld⟩)
  have hkl : lk.length ≤ 1048576 := by simp [hlk]
  have hdl : ld.length ≤ 1048576 := by simp [hld]
  have HLK := Lib.hid hlk
  have HLD := Lib.hid hld
  clear hlk hld
  go_enter Tryd.func20, Tryd.ntmps20
  go_wp2_with fail
  go_loopw [5] (fun t wr => t = .int .i64 0 ∧ Ext (w.alloc (.cells #[.int .i64 x.id, .int .i64 x.parent, .int .i64 x.rate, .int .i64 x.ceil, .int .i64 x.burst, .int .i64 x.cburst, .int .i64 x.prio, .int .i64 x.limit] 36)) wr) (fun t _ => 0)
  case atStart => exact ⟨rfl, Ext.refl _⟩
  case round =>
    obtain ⟨rfl, hx⟩ := hrel
    obtain ⟨w1, rfl⟩ : ∃ x : World, x = wr := ⟨_, rfl⟩
    (go_wp2_with fail; refine wp_region_ext (by kernel_rfl) (by kernel_rfl) ?_; (repeat (first | go_big_quiet_step (fail) | quiet_step (fail))); refine wpQuiet_nil ?_; intro wq hbq)
    have X1 := hx.trans hbq
    clear hbq hx
    have hs1 := Ext.size X1
    simp at hs1
    obtain ⟨q0, q1, q2, q3, q4, q5, q6, q7, qg⟩ := bcC (BX.out.ext X1)
    go_wp2_with (at_builtin; refine app_srcC rfl (own_fresh wq wq.heap.size _ _ _ _ rfl (Nat.le_refl _)) (HST.out.ext (by (repeat (first | (with_reducible exact Ext.refl _) | (with_reducible assumption) | (with_reducible apply Ext.alloc) | (with_reducible apply Ext.drew) | (with_reducible apply Ext.drewN) | ((with_reducible refine Ext.setCell ?_ ?_ _); rotate_left; (focus (first | (simp; done) | (simp; omega) | omega))) | (with_reducible refine Ext.trans ?_ (by assumption)))))) (by simp; omega) ((Ext.refl wq).alloc _) rfl rfl rfl rfl ?_; intro v2 w2 hown2 D2; obtain ⟨A2, n2, c2, rfl⟩ := Own.form hown2 Cls.len; have HO2 := Lib.hid hown2; clear hown2)
    have X2 := X1.trans D2
    have EQ : Ext w wq := E0.trans X1
    have E2 := EQ.trans D2
    obtain ⟨q0, q1, q2, q3, q4, q5, q6, q7, qg⟩ := bcC (BX.out.ext X2)
    go_region_held3 (fun w' => w'.cell? ⟨w.heap.size, 0, none⟩ = some (.int .i64 x.id) ∧ w'.cell? ⟨w.heap.size, 1, none⟩ = some (.int .i64 x.parent) ∧ w'.cell? ⟨w.heap.size, 2, none⟩ = some (.int .i64 x.rate) ∧ w'.cell? ⟨w.heap.size, 3, none⟩ = some (.int .i64 x.ceil) ∧ w'.cell? ⟨w.heap.size, 4, none⟩ = some (.int .i64 x.burst) ∧ w'.cell? ⟨w.heap.size, 5, none⟩ = some (.int .i64 x.cburst) ∧ w'.cell? ⟨w.heap.size, 6, none⟩ = some (.int .i64 x.prio) ∧ w'.cell? ⟨w.heap.size, 7, none⟩ = some (.int .i64 x.limit)) (first | (with_reducible exact ⟨q0, q1, q2, q3, q4, q5, q6, q7⟩) | go_keep)
      (first | (refine step_appC wq _ (by rfl) _ _ (by rfl) _ _ ([] ++ lk) [x] (by rfl) (by rfl) (src_oneC (by first | (with_reducible exact blkN_new (by simp)) | (with_reducible exact Blk.drew (blkN_new (by simp))))) (Own.ext HO2.out (by (repeat (first | (with_reducible exact Ext.refl _) | (with_reducible assumption) | (with_reducible apply Ext.alloc) | (with_reducible apply Ext.drew) | (with_reducible apply Ext.drewN) | ((with_reducible refine Ext.setCell ?_ ?_ _); rotate_left; (focus (first | (simp; done) | (simp; omega) | omega))) | (with_reducible refine Ext.trans ?_ (by assumption)))))) (by simp; omega) (by (repeat (first | (with_reducible exact Ext.refl _) | (with_reducible assumption) | (with_reducible apply Ext.alloc) | (with_reducible apply Ext.drew) | (with_reducible apply Ext.drewN) | ((with_reducible refine Ext.setCell ?_ ?_ _); rotate_left; (focus (first | (simp; done) | (simp; omega) | omega))) | (with_reducible refine Ext.trans ?_ (by assumption))))) ?_; intro A3 n3 c3 w3 O3 X3; have HO3 := Lib.hid O3; clear O3; obtain ⟨q0, q1, q2, q3, q4, q5, q6, q7, qg⟩ := bcC (BX.out.ext (X1.trans X3))) | (refine step_appC wq _ (by rfl) _ _ (by rfl) _ _ ([] ++ lk ++ [x]) ld (by rfl) (by rfl) (HSD.out.ext (by (repeat (first | (with_reducible exact Ext.refl _) | (with_reducible assumption) | (with_reducible apply Ext.alloc) | (with_reducible apply Ext.drew) | (with_reducible apply Ext.drewN) | ((with_reducible refine Ext.setCell ?_ ?_ _); rotate_left; (focus (first | (simp; done) | (simp; omega) | omega))) | (with_reducible refine Ext.trans ?_ (by assumption)))))) (Own.ext HO3.out (by (repeat (first | (with_reducible exact Ext.refl _) | (with_reducible assumption) | (with_reducible apply Ext.alloc) | (with_reducible apply Ext.drew) | (with_reducible apply Ext.drewN) | ((with_reducible refine Ext.setCell ?_ ?_ _); rotate_left; (focus (first | (simp; done) | (simp; omega) | omega))) | (with_reducible refine Ext.trans ?_ (by assumption)))))) (by simp; omega) (by (repeat (first | (with_reducible exact Ext.refl _) | (with_reducible assumption) | (with_reducible apply Ext.alloc) | (with_reducible apply Ext.drew) | (with_reducible apply Ext.drewN) | ((with_reducible refine Ext.setCell ?_ ?_ _); rotate_left; (focus (first | (simp; done) | (simp; omega) | omega))) | (with_reducible refine Ext.trans ?_ (by assumption))))) ?_; intro A4 n4 c4 w4 O4 X4; have HO4 := Lib.hid O4; clear O4; obtain ⟨q0, q1, q2, q3, q4, q5, q6, q7, qg⟩ := bcC (BX.out.ext (X1.trans X4))))
    all_goals
      go_wp2_with fail
      go_ret
      exact ⟨A4, n4, c4, _, rfl, Own.mono HO4.out (by omega), by rw [HLK.out, HLD.out]; exact List.Perm.refl _, fun _ => by rw [HLK.out, HLD.out]; exact SrtOn.small _ (by simp), EQ.trans X4⟩
theorem putC_blk (l : List Cls) (b o c : Nat) (x : Cls) (w : World) (h : SrcC w (.slice (some ⟨b, o, none⟩) l.length c) l) (hcl : l.length ≤ c) (hcm : c ≤ maxLen) (hr : ∀ i x, l[i]? = some x → b < w.heap.size ∧ ∀ j u, (Cls.cells x)[j]? = some u → w.cell? ⟨b, o + i * 8 + j, none⟩ = some u) (hl : l.length ≤ 1048576) :
    Calls Tryd.prog 20 #[.slice (some ⟨b, o, none⟩) l.length c, clsV x] w (PutAnsC l x w) := by
  have HS := Lib.hid h
  have HR := Lib.hid hr
  clear h hr
  have E0 : Ext w (w.alloc (.cells #[.int .i64 x.id, .int .i64 x.parent, .int .i64 x.rate, .int .i64 x.ceil, .int .i64 x.burst, .int .i64 x.cburst, .int .i64 x.prio, .int .i64 x.limit] 36)) := by (repeat (first | (with_reducible exact Ext.refl _) | (with_reducible assumption) | (with_reducible apply Ext.alloc) | (with_reducible apply Ext.drew) | (with_reducible apply Ext.drewN) | ((with_reducible refine Ext.setCell ?_ ?_ _); rotate_left; (focus (first | (simp; done) | (simp; omega) | omega))) | (with_reducible refine Ext.trans ?_ (by assumption))))
  have BX := Lib.hid (Blk.new w 36 #[.int .i64 x.id, .int .i64 x.parent, .int .i64 x.rate, .int .i64 x.ceil, .int .i64 x.burst, .int .i64 x.cburst, .int .i64 x.prio, .int .i64 x.limit])
  go_enter Tryd.func20, Tryd.ntmps20
  go_wp2_with fail
  go_loopw [5] (fun t wr => ∃ k : Nat, t = .int .i64 (k : Int) ∧ k ≤ l.length ∧ Hid (∀ t, t < k → kF (fun x : Cls => x.id) l t < x.id) ∧ Ext (w.alloc (.cells #[.int .i64 x.id, .int .i64 x.parent, .int .i64 x.rate, .int .i64 x.ceil, .int .i64 x.burst, .int .i64 x.cburst, .int .i64 x.prio, .int .i64 x.limit] 36)) wr) (fun t _ => l.length - (intOf t).toNat)
  case atStart => exact ⟨0, rfl, Nat.zero_le _, Lib.hid (fun t h => absurd h (by omega)), Ext.refl _⟩
  case round =>
    obtain ⟨k, rfl, hk, H1, hx⟩ := hrel
    obtain ⟨w1, rfl⟩ : ∃ x : World, x = wr := ⟨_, rfl⟩
    obtain ⟨lk, hlk⟩ : ∃ lk : List Cls, lk = l.take k := ⟨_, rfl⟩
    obtain ⟨ld, hld⟩ : ∃ ld : List Cls, ld = l.drop k := ⟨_, rfl⟩
    have HST := Lib.hid (show SrcC w (.slice (some ⟨b, o, none⟩) k c) lk from hlk ▸ Src.take HS.out k hk)
    obtain ⟨Ad, hA, HSD⟩ : ∃ Ad : Addr, (if c = k then some (⟨b, o, none⟩ : Addr) else some ⟨b, o + k * 8, none⟩) = some Ad ∧ Hid (SrcC w (.slice (some Ad) (l.length - k) (c - k)) ld) := by
      by_cases hck : c = k
      · refine ⟨⟨b, o, none⟩, by simp [hck], Lib.hid ?_⟩
        rw [hld, List.drop_of_length_le (by omega), show l.length - k = 0 by omega]
        exact Src.none_left w 8 b o (c - k) Cls.cells (by omega)
      · exact ⟨⟨b, o + k * 8, none⟩, by simp [hck], Lib.hid (hld ▸ Src.drop HS.out k)⟩
    have hkl : lk.length ≤ 1048576 := by rw [hlk, List.length_take]; omega
    have hdl : ld.length ≤ 1048576 := by rw [hld, List.length_drop]; omega
    have HLK := Lib.hid hlk
    have HLD := Lib.hid hld
    clear hlk hld
    have hkc : k ≤ c := by omega
    have bx0 : w1.cell? ⟨w.heap.size, 0, none⟩ = some (.int .i64 x.id) := (bcC (BX.out.ext hx)).1
    have hbx := (BX.out.ext hx).lt
    by_cases hlt : k < l.length
    · have hltz : (k : Int) < (l.length : Int) := by omega
      obtain ⟨hbw, hcell⟩ := HR.out k l[k] (List.getElem?_eq_getElem hlt)
      have hky := kF_is (fun x : Cls => x.id) l k hlt
      generalize l[k] = y at hcell hky
      have HKY := Lib.hid (show kF (fun x : Cls => x.id) l k = y.id from hky)
      have cy : w1.cell? ⟨b, o + k * 8, none⟩ = some (.int .i64 y.id) := by rw [Ext.cell hx (by simp; omega), Ext.cell E0 hbw]; exact hcell 0 _ rfl
      have hbw1 : b < w1.heap.size := by have := Ext.size hx; simp at this; omega
      clear hcell hky
      by_cases hlk : y.id < x.id
      · (go_wp2_with fail; refine wp_region_ext (by kernel_rfl) (by kernel_rfl) ?_; (repeat (first | go_big_quiet_step (fail) | quiet_step (fail))); refine wpQuiet_nil ?_; intro wq hbq)
        go_wp2_with fail
        go_roundw
        case rel => exact ⟨k + 1, by go_num, by omega, Lib.hid (fun t ht => by
          rcases Nat.lt_or_ge t k with h | h
          · exact H1.out t h
          · obtain rfl : t = k := by omega
            rw [HKY.out]; exact hlk), hx.trans hbq⟩
        case measure => (simp [intOf]; try omega)
      · have H2 := Lib.hid (show k < l.length → x.id ≤ kF (fun x : Cls => x.id) l k from fun _ => by rw [HKY.out]; omega)
        (go_wp2_with fail; refine wp_region_ext (by kernel_rfl) (by kernel_rfl) ?_; (repeat (first | go_big_quiet_step (fail) | quiet_step (fail))); refine wpQuiet_nil ?_; intro wq hbq)
        have X1 := hx.trans hbq
        clear hbq hx
        have hs1 := Ext.size X1
        simp at hs1
        obtain ⟨q0, q1, q2, q3, q4, q5, q6, q7, qg⟩ := bcC (BX.out.ext X1)
        go_wp2_with (at_builtin; refine app_srcC rfl (own_fresh wq wq.heap.size _ _ _ _ rfl (Nat.le_refl _)) (HST.out.ext (by (repeat (first | (with_reducible exact Ext.refl _) | (with_reducible assumption) | (with_reducible apply Ext.alloc) | (with_reducible apply Ext.drew) | (with_reducible apply Ext.drewN) | ((with_reducible refine Ext.setCell ?_ ?_ _); rotate_left; (focus (first | (simp; done) | (simp; omega) | omega))) | (with_reducible refine Ext.trans ?_ (by assumption)))))) (by simp; omega) ((Ext.refl wq).alloc _) rfl rfl rfl rfl ?_; intro v2 w2 hown2 D2; obtain ⟨A2, n2, c2, rfl⟩ := Own.form hown2 Cls.len; have HO2 := Lib.hid hown2; clear hown2)
        have X2 := X1.trans D2
        have EQ : Ext w wq := E0.trans X1
        have E2 := EQ.trans D2
        obtain ⟨q0, q1, q2, q3, q4, q5, q6, q7, qg⟩ := bcC (BX.out.ext X2)
        go_region_held3 (fun w' => w'.cell? ⟨w.heap.size, 0, none⟩ = some (.int .i64 x.id) ∧ w'.cell? ⟨w.heap.size, 1, none⟩ = some (.int .i64 x.parent) ∧ w'.cell? ⟨w.heap.size, 2, none⟩ = some (.int .i64 x.rate) ∧ w'.cell? ⟨w.heap.size, 3, none⟩ = some (.int .i64 x.ceil) ∧ w'.cell? ⟨w.heap.size, 4, none⟩ = some (.int .i64 x.burst) ∧ w'.cell? ⟨w.heap.size, 5, none⟩ = some (.int .i64 x.cburst) ∧ w'.cell? ⟨w.heap.size, 6, none⟩ = some (.int .i64 x.prio) ∧ w'.cell? ⟨w.heap.size, 7, none⟩ = some (.int .i64 x.limit)) (first | (with_reducible exact ⟨q0, q1, q2, q3, q4, q5, q6, q7⟩) | go_keep)
          (first | (refine step_appC wq _ (by rfl) _ _ (by rfl) _ _ ([] ++ lk) [x] (by rfl) (by rfl) (src_oneC (by first | (with_reducible exact blkN_new (by simp)) | (with_reducible exact Blk.drew (blkN_new (by simp))))) (Own.ext HO2.out (by (repeat (first | (with_reducible exact Ext.refl _) | (with_reducible assumption) | (with_reducible apply Ext.alloc) | (with_reducible apply Ext.drew) | (with_reducible apply Ext.drewN) | ((with_reducible refine Ext.setCell ?_ ?_ _); rotate_left; (focus (first | (simp; done) | (simp; omega) | omega))) | (with_reducible refine Ext.trans ?_ (by assumption)))))) (by simp; omega) (by (repeat (first | (with_reducible exact Ext.refl _) | (with_reducible assumption) | (with_reducible apply Ext.alloc) | (with_reducible apply Ext.drew) | (with_reducible apply Ext.drewN) | ((with_reducible refine Ext.setCell ?_ ?_ _); rotate_left; (focus (first | (simp; done) | (simp; omega) | omega))) | (with_reducible refine Ext.trans ?_ (by assumption))))) ?_; intro A3 n3 c3 w3 O3 X3; have HO3 := Lib.hid O3; clear O3; obtain ⟨q0, q1, q2, q3, q4, q5, q6, q7, qg⟩ := bcC (BX.out.ext (X1.trans X3))) | (refine step_appC wq _ (by rfl) _ _ (by rfl) _ _ ([] ++ lk ++ [x]) ld (by rfl) (by simp [Act.eval, Act.put, hA]) (HSD.out.ext (by (repeat (first | (with_reducible exact Ext.refl _) | (with_reducible assumption) | (with_reducible apply Ext.alloc) | (with_reducible apply Ext.drew) | (with_reducible apply Ext.drewN) | ((with_reducible refine Ext.setCell ?_ ?_ _); rotate_left; (focus (first | (simp; done) | (simp; omega) | omega))) | (with_reducible refine Ext.trans ?_ (by assumption)))))) (Own.ext HO3.out (by (repeat (first | (with_reducible exact Ext.refl _) | (with_reducible assumption) | (with_reducible apply Ext.alloc) | (with_reducible apply Ext.drew) | (with_reducible apply Ext.drewN) | ((with_reducible refine Ext.setCell ?_ ?_ _); rotate_left; (focus (first | (simp; done) | (simp; omega) | omega))) | (with_reducible refine Ext.trans ?_ (by assumption)))))) (by simp; omega) (by (repeat (first | (with_reducible exact Ext.refl _) | (with_reducible assumption) | (with_reducible apply Ext.alloc) | (with_reducible apply Ext.drew) | (with_reducible apply Ext.drewN) | ((with_reducible refine Ext.setCell ?_ ?_ _); rotate_left; (focus (first | (simp; done) | (simp; omega) | omega))) | (with_reducible refine Ext.trans ?_ (by assumption))))) ?_; intro A4 n4 c4 w4 O4 X4; have HO4 := Lib.hid O4; clear O4; obtain ⟨q0, q1, q2, q3, q4, q5, q6, q7, qg⟩ := bcC (BX.out.ext (X1.trans X4))))
        all_goals
          go_wp2_with fail
          go_ret
          exact ⟨A4, n4, c4, _, rfl, Own.mono HO4.out (by omega), by rw [HLK.out, HLD.out]; simpa using put_perm l x k, fun hs => by rw [HLK.out, HLD.out]; simpa using put_asc hk H1.out H2.out hs, EQ.trans X4⟩
    · have hltz : ¬ (k : Int) < (l.length : Int) := by omega
      have H2 := Lib.hid (show k < l.length → x.id ≤ kF (fun x : Cls => x.id) l k from fun h => absurd h hlt)
      (go_wp2_with fail; refine wp_region_ext (by kernel_rfl) (by kernel_rfl) ?_; (repeat (first | go_big_quiet_step (fail) | quiet_step (fail))); refine wpQuiet_nil ?_; intro wq hbq)
      have X1 := hx.trans hbq
      clear hbq hx
      have hs1 := Ext.size X1
      simp at hs1
      obtain ⟨q0, q1, q2, q3, q4, q5, q6, q7, qg⟩ := bcC (BX.out.ext X1)
      go_wp2_with (at_builtin; refine app_srcC rfl (own_fresh wq wq.heap.size _ _ _ _ rfl (Nat.le_refl _)) (HST.out.ext (by (repeat (first | (with_reducible exact Ext.refl _) | (with_reducible assumption) | (with_reducible apply Ext.alloc) | (with_reducible apply Ext.drew) | (with_reducible apply Ext.drewN) | ((with_reducible refine Ext.setCell ?_ ?_ _); rotate_left; (focus (first | (simp; done) | (simp; omega) | omega))) | (with_reducible refine Ext.trans ?_ (by assumption)))))) (by simp; omega) ((Ext.refl wq).alloc _) rfl rfl rfl rfl ?_; intro v2 w2 hown2 D2; obtain ⟨A2, n2, c2, rfl⟩ := Own.form hown2 Cls.len; have HO2 := Lib.hid hown2; clear hown2)
      have X2 := X1.trans D2
      have EQ : Ext w wq := E0.trans X1
      have E2 := EQ.trans D2
      obtain ⟨q0, q1, q2, q3, q4, q5, q6, q7, qg⟩ := bcC (BX.out.ext X2)
      go_region_held3 (fun w' => w'.cell? ⟨w.heap.size, 0, none⟩ = some (.int .i64 x.id) ∧ w'.cell? ⟨w.heap.size, 1, none⟩ = some (.int .i64 x.parent) ∧ w'.cell? ⟨w.heap.size, 2, none⟩ = some (.int .i64 x.rate) ∧ w'.cell? ⟨w.heap.size, 3, none⟩ = some (.int .i64 x.ceil) ∧ w'.cell? ⟨w.heap.size, 4, none⟩ = some (.int .i64 x.burst) ∧ w'.cell? ⟨w.heap.size, 5, none⟩ = some (.int .i64 x.cburst) ∧ w'.cell? ⟨w.heap.size, 6, none⟩ = some (.int .i64 x.prio) ∧ w'.cell? ⟨w.heap.size, 7, none⟩ = some (.int .i64 x.limit)) (first | (with_reducible exact ⟨q0, q1, q2, q3, q4, q5, q6, q7⟩) | go_keep)
        (first | (refine step_appC wq _ (by rfl) _ _ (by rfl) _ _ ([] ++ lk) [x] (by rfl) (by rfl) (src_oneC (by first | (with_reducible exact blkN_new (by simp)) | (with_reducible exact Blk.drew (blkN_new (by simp))))) (Own.ext HO2.out (by (repeat (first | (with_reducible exact Ext.refl _) | (with_reducible assumption) | (with_reducible apply Ext.alloc) | (with_reducible apply Ext.drew) | (with_reducible apply Ext.drewN) | ((with_reducible refine Ext.setCell ?_ ?_ _); rotate_left; (focus (first | (simp; done) | (simp; omega) | omega))) | (with_reducible refine Ext.trans ?_ (by assumption)))))) (by simp; omega) (by (repeat (first | (with_reducible exact Ext.refl _) | (with_reducible assumption) | (with_reducible apply Ext.alloc) | (with_reducible apply Ext.drew) | (with_reducible apply Ext.drewN) | ((with_reducible refine Ext.setCell ?_ ?_ _); rotate_left; (focus (first | (simp; done) | (simp; omega) | omega))) | (with_reducible refine Ext.trans ?_ (by assumption))))) ?_; intro A3 n3 c3 w3 O3 X3; have HO3 := Lib.hid O3; clear O3; obtain ⟨q0, q1, q2, q3, q4, q5, q6, q7, qg⟩ := bcC (BX.out.ext (X1.trans X3))) | (refine step_appC wq _ (by rfl) _ _ (by rfl) _ _ ([] ++ lk ++ [x]) ld (by rfl) (by simp [Act.eval, Act.put, hA]) (HSD.out.ext (by (repeat (first | (with_reducible exact Ext.refl _) | (with_reducible assumption) | (with_reducible apply Ext.alloc) | (with_reducible apply Ext.drew) | (with_reducible apply Ext.drewN) | ((with_reducible refine Ext.setCell ?_ ?_ _); rotate_left; (focus (first | (simp; done) | (simp; omega) | omega))) | (with_reducible refine Ext.trans ?_ (by assumption)))))) (Own.ext HO3.out (by (repeat (first | (with_reducible exact Ext.refl _) | (with_reducible assumption) | (with_reducible apply Ext.alloc) | (with_reducible apply Ext.drew) | (with_reducible apply Ext.drewN) | ((with_reducible refine Ext.setCell ?_ ?_ _); rotate_left; (focus (first | (simp; done) | (simp; omega) | omega))) | (with_reducible refine Ext.trans ?_ (by assumption)))))) (by simp; omega) (by (repeat (first | (with_reducible exact Ext.refl _) | (with_reducible assumption) | (with_reducible apply Ext.alloc) | (with_reducible apply Ext.drew) | (with_reducible apply Ext.drewN) | ((with_reducible refine Ext.setCell ?_ ?_ _); rotate_left; (focus (first | (simp; done) | (simp; omega) | omega))) | (with_reducible refine Ext.trans ?_ (by assumption))))) ?_; intro A4 n4 c4 w4 O4 X4; have HO4 := Lib.hid O4; clear O4; obtain ⟨q0, q1, q2, q3, q4, q5, q6, q7, qg⟩ := bcC (BX.out.ext (X1.trans X4))))
      all_goals
        go_wp2_with fail
        go_ret
        exact ⟨A4, n4, c4, _, rfl, Own.mono HO4.out (by omega), by rw [HLK.out, HLD.out]; simpa using put_perm l x k, fun hs => by rw [HLK.out, HLD.out]; simpa using put_asc hk H1.out H2.out hs, EQ.trans X4⟩
theorem putC_any (l : List Cls) (v : Value) (x : Cls) (w : World) (h : SrcC w v l) (hl : l.length ≤ 1048576) : Calls Tryd.prog 20 #[v, clsV x] w (PutAnsC l x w) := by
  rcases h with ⟨rfl, rfl⟩ | ⟨b, o, c, rfl, hc, hm, hr⟩
  · exact putC_nil x w
  · exact putC_blk l b o c x w (.inr ⟨b, o, c, rfl, hc, hm, hr⟩) hc hm hr hl
theorem bcF {w : World} {g : Nat} {T : TypeId} {a0 a1 a2 a3 a4 : Value} (h : Blk w g T #[a0, a1, a2, a3, a4]) : w.cell? ⟨g, 0, none⟩ = some a0 ∧ w.cell? ⟨g, 1, none⟩ = some a1 ∧ w.cell? ⟨g, 2, none⟩ = some a2 ∧ w.cell? ⟨g, 3, none⟩ = some a3 ∧ w.cell? ⟨g, 4, none⟩ = some a4 ∧ g < w.heap.size := by
  have hl := h.lt
  unfold Blk at h
  exact ⟨by simp [World.cell?, h], by simp [World.cell?, h], by simp [World.cell?, h], by simp [World.cell?, h], by simp [World.cell?, h], hl⟩
/-- 'append(own, src...)' as a step of a region that draws its order, from world W0 on. -/
theorem step_appF {ops : Array Oper} {o : Oper} {a : Act} {K : Act → World → Prop} {Q : Exit → Act → World → Prop} {EE : Prop} (W0 : World) (wr : World) (hg : o.guard = none) (s x : Operand)
    (ho : o.op = .call { callee := .builtin .append, args := #[s, x], argTypes := #[30, 30] }) (v y : Value) (l ys : List Flt) (hs : a.eval s = v) (hx : a.eval x = y)
    (hsrc : SrcF wr y ys) (hown : OwnF wr W0.heap.size v l) (hn : l.length + ys.length ≤ 100000000) (hE : Ext W0 wr)
    (hK : ∀ A n c w', OwnF w' W0.heap.size (.slice A n c) (l ++ ys) → Ext W0 w' → K (a.put o.dst (.slice A n c)) w') :
    if Region.wanted o (yielded ops a.tmps) = true then Oper.wp Tryd.prog o a wr K Q else EE := by
  obtain ⟨i0, ii0, ii1, ii2, ii3⟩ := info_parts info_Filter5
  refine step_own_src Tryd.underlying30 ii0 ii1 ii2 ii3 rfl (by omega) (by omega) Flt.len flt_one W0.heap.size wr hg s x ho v y l ys hs hx hsrc hown hn (Ext.size hE) ?_
  intro v' w' ho' hgr
  obtain ⟨A, n, c, rfl⟩ := Own.form ho' Flt.len
  exact hK A n c w' ho' (Ext.grown hE hgr (fun k hk => (Own.lt hown k hk).1))
theorem src_oneF {w : World} {g : Nat} {x : Flt} (h : Blk w g 60 #[.int .i64 x.prio, .int .i64 x.field, .int .i64 x.mask, .int .i64 x.value, .int .i64 x.target]) : SrcF w (.slice (some ⟨g, 0, none⟩) 1 1) [x] := by
  refine .inr ⟨g, 0, 1, rfl, Nat.le_refl _, by unfold maxLen; omega, fun i y hi => ?_⟩
  match i, hi with
  | 0, hi =>
    simp at hi
    subst hi
    refine ⟨h.lt, fun j u hu => ?_⟩
    unfold Blk at h
    simp only [Nat.zero_mul, Nat.zero_add, World.cell?, h, Option.isSome_none, Bool.false_eq_true, if_false]
    simpa [Flt.cells] using hu
/-- What putting one into a list leaves. -/
def PutAnsF (l : List Flt) (x : Flt) (w : World) (e : Ending) (w' : World) : Prop :=
  ∃ A n c l', e = .returned (.slice A n c) ∧ OwnF w' w.heap.size (.slice A n c) l' ∧ l'.Perm (x :: l) ∧ (Asc (fun x : Flt => x.prio) l → Asc (fun x : Flt => x.prio) l') ∧ Ext w w'
theorem putF_nil (x : Flt) (w : World) : Calls Tryd.prog 57 #[.slice none 0 0, fltW x] w (PutAnsF [] x w) := by
  have E0 : Ext w (w.alloc (.cells #[.int .i64 x.prio, .int .i64 x.field, .int .i64 x.mask, .int .i64 x.value, .int .i64 x.target] 60)) := by (repeat (first | (with_reducible exact Ext.refl _) | (with_reducible assumption) | (with_reducible apply Ext.alloc) | (with_reducible apply Ext.drew) | (with_reducible apply Ext.drewN) | ((with_reducible refine Ext.setCell ?_ ?_ _); rotate_left; (focus (first | (simp; done) | (simp; omega) | omega))) | (with_reducible refine Ext.trans ?_ (by assumption))))
  have BX := Lib.hid (Blk.new w 60 #[.int .i64 x.prio, .int .i64 x.field, .int .i64 x.mask, .int .i64 x.value, .int .i64 x.target])
  obtain ⟨lk, hlk⟩ : ∃ lk : List Flt, lk = [] := ⟨_, rfl⟩
  obtain ⟨ld, hld⟩ : ∃ ld : List Flt, ld = [] := ⟨_, rfl⟩
  have HST := Lib.hid (show SrcF w (.slice none 0 0) lk from .inl ⟨rfl, hlk⟩)
  have HSD := Lib.hid (show SrcF w (.slice none 0 0) ld from .inl ⟨rfl, hld⟩)
  have hkl : lk.length ≤ 1048576 := by simp [hlk]
  have hdl : ld.length ≤ 1048576 := by simp [hld]
  have HLK := Lib.hid hlk
  have HLD := Lib.hid hld
  clear hlk hld
  go_enter Tryd.func57, Tryd.ntmps57
  go_wp2_with fail
  go_loopw [5] (fun t wr => t = .int .i64 0 ∧ Ext (w.alloc (.cells #[.int .i64 x.prio, .int .i64 x.field, .int .i64 x.mask, .int .i64 x.value, .int .i64 x.target] 60)) wr) (fun t _ => 0)
  case atStart => exact ⟨rfl, Ext.refl _⟩
  case round =>
    obtain ⟨rfl, hx⟩ := hrel
    obtain ⟨w1, rfl⟩ : ∃ x : World, x = wr := ⟨_, rfl⟩
    (go_wp2_with fail; refine wp_region_ext (by kernel_rfl) (by kernel_rfl) ?_; (repeat (first | go_big_quiet_step (fail) | quiet_step (fail))); refine wpQuiet_nil ?_; intro wq hbq)
    have X1 := hx.trans hbq
    clear hbq hx
    have hs1 := Ext.size X1
    simp at hs1
    obtain ⟨q0, q1, q2, q3, q4, qg⟩ := bcF (BX.out.ext X1)
    go_wp2_with (at_builtin; refine app_srcF rfl (own_fresh wq wq.heap.size _ _ _ _ rfl (Nat.le_refl _)) (HST.out.ext (by (repeat (first | (with_reducible exact Ext.refl _) | (with_reducible assumption) | (with_reducible apply Ext.alloc) | (with_reducible apply Ext.drew) | (with_reducible apply Ext.drewN) | ((with_reducible refine Ext.setCell ?_ ?_ _); rotate_left; (focus (first | (simp; done) | (simp; omega) | omega))) | (with_reducible refine Ext.trans ?_ (by assumption)))))) (by simp; omega) ((Ext.refl wq).alloc _) rfl rfl rfl rfl ?_; intro v2 w2 hown2 D2; obtain ⟨A2, n2, c2, rfl⟩ := Own.form hown2 Flt.len; have HO2 := Lib.hid hown2; clear hown2)
    have X2 := X1.trans D2
    have EQ : Ext w wq := E0.trans X1
    have E2 := EQ.trans D2
    obtain ⟨q0, q1, q2, q3, q4, qg⟩ := bcF (BX.out.ext X2)
    go_region_held3 (fun w' => w'.cell? ⟨w.heap.size, 0, none⟩ = some (.int .i64 x.prio) ∧ w'.cell? ⟨w.heap.size, 1, none⟩ = some (.int .i64 x.field) ∧ w'.cell? ⟨w.heap.size, 2, none⟩ = some (.int .i64 x.mask) ∧ w'.cell? ⟨w.heap.size, 3, none⟩ = some (.int .i64 x.value) ∧ w'.cell? ⟨w.heap.size, 4, none⟩ = some (.int .i64 x.target)) (first | (with_reducible exact ⟨q0, q1, q2, q3, q4⟩) | go_keep)
      (first | (refine step_appF wq _ (by rfl) _ _ (by rfl) _ _ ([] ++ lk) [x] (by rfl) (by rfl) (src_oneF (by first | (with_reducible exact blkN_new (by simp)) | (with_reducible exact Blk.drew (blkN_new (by simp))))) (Own.ext HO2.out (by (repeat (first | (with_reducible exact Ext.refl _) | (with_reducible assumption) | (with_reducible apply Ext.alloc) | (with_reducible apply Ext.drew) | (with_reducible apply Ext.drewN) | ((with_reducible refine Ext.setCell ?_ ?_ _); rotate_left; (focus (first | (simp; done) | (simp; omega) | omega))) | (with_reducible refine Ext.trans ?_ (by assumption)))))) (by simp; omega) (by (repeat (first | (with_reducible exact Ext.refl _) | (with_reducible assumption) | (with_reducible apply Ext.alloc) | (with_reducible apply Ext.drew) | (with_reducible apply Ext.drewN) | ((with_reducible refine Ext.setCell ?_ ?_ _); rotate_left; (focus (first | (simp; done) | (simp; omega) | omega))) | (with_reducible refine Ext.trans ?_ (by assumption))))) ?_; intro A3 n3 c3 w3 O3 X3; have HO3 := Lib.hid O3; clear O3; obtain ⟨q0, q1, q2, q3, q4, qg⟩ := bcF (BX.out.ext (X1.trans X3))) | (refine step_appF wq _ (by rfl) _ _ (by rfl) _ _ ([] ++ lk ++ [x]) ld (by rfl) (by rfl) (HSD.out.ext (by (repeat (first | (with_reducible exact Ext.refl _) | (with_reducible assumption) | (with_reducible apply Ext.alloc) | (with_reducible apply Ext.drew) | (with_reducible apply Ext.drewN) | ((with_reducible refine Ext.setCell ?_ ?_ _); rotate_left; (focus (first | (simp; done) | (simp; omega) | omega))) | (with_reducible refine Ext.trans ?_ (by assumption)))))) (Own.ext HO3.out (by (repeat (first | (with_reducible exact Ext.refl _) | (with_reducible assumption) | (with_reducible apply Ext.alloc) | (with_reducible apply Ext.drew) | (with_reducible apply Ext.drewN) | ((with_reducible refine Ext.setCell ?_ ?_ _); rotate_left; (focus (first | (simp; done) | (simp; omega) | omega))) | (with_reducible refine Ext.trans ?_ (by assumption)))))) (by simp; omega) (by (repeat (first | (with_reducible exact Ext.refl _) | (with_reducible assumption) | (with_reducible apply Ext.alloc) | (with_reducible apply Ext.drew) | (with_reducible apply Ext.drewN) | ((with_reducible refine Ext.setCell ?_ ?_ _); rotate_left; (focus (first | (simp; done) | (simp; omega) | omega))) | (with_reducible refine Ext.trans ?_ (by assumption))))) ?_; intro A4 n4 c4 w4 O4 X4; have HO4 := Lib.hid O4; clear O4; obtain ⟨q0, q1, q2, q3, q4, qg⟩ := bcF (BX.out.ext (X1.trans X4))))
    all_goals
      go_wp2_with fail
      go_ret
      exact ⟨A4, n4, c4, _, rfl, Own.mono HO4.out (by omega), by rw [HLK.out, HLD.out]; exact List.Perm.refl _, fun _ => by rw [HLK.out, HLD.out]; exact SrtOn.small _ (by simp), EQ.trans X4⟩
theorem putF_blk (l : List Flt) (b o c : Nat) (x : Flt) (w : World) (h : SrcF w (.slice (some ⟨b, o, none⟩) l.length c) l) (hcl : l.length ≤ c) (hcm : c ≤ maxLen) (hr : ∀ i x, l[i]? = some x → b < w.heap.size ∧ ∀ j u, (Flt.cells x)[j]? = some u → w.cell? ⟨b, o + i * 5 + j, none⟩ = some u) (hl : l.length ≤ 1048576) :
    Calls Tryd.prog 57 #[.slice (some ⟨b, o, none⟩) l.length c, fltW x] w (PutAnsF l x w) := by
  have HS := Lib.hid h
  have HR := Lib.hid hr
  clear h hr
  have E0 : Ext w (w.alloc (.cells #[.int .i64 x.prio, .int .i64 x.field, .int .i64 x.mask, .int .i64 x.value, .int .i64 x.target] 60)) := by (repeat (first | (with_reducible exact Ext.refl _) | (with_reducible assumption) | (with_reducible apply Ext.alloc) | (with_reducible apply Ext.drew) | (with_reducible apply Ext.drewN) | ((with_reducible refine Ext.setCell ?_ ?_ _); rotate_left; (focus (first | (simp; done) | (simp; omega) | omega))) | (with_reducible refine Ext.trans ?_ (by assumption))))
  have BX := Lib.hid (Blk.new w 60 #[.int .i64 x.prio, .int .i64 x.field, .int .i64 x.mask, .int .i64 x.value, .int .i64 x.target])
  go_enter Tryd.func57, Tryd.ntmps57
  go_wp2_with fail
  go_loopw [5] (fun t wr => ∃ k : Nat, t = .int .i64 (k : Int) ∧ k ≤ l.length ∧ Hid (∀ t, t < k → kF (fun x : Flt => x.prio) l t < x.prio) ∧ Ext (w.alloc (.cells #[.int .i64 x.prio, .int .i64 x.field, .int .i64 x.mask, .int .i64 x.value, .int .i64 x.target] 60)) wr) (fun t _ => l.length - (intOf t).toNat)
  case atStart => exact ⟨0, rfl, Nat.zero_le _, Lib.hid (fun t h => absurd h (by omega)), Ext.refl _⟩
  case round =>
    obtain ⟨k, rfl, hk, H1, hx⟩ := hrel
    obtain ⟨w1, rfl⟩ : ∃ x : World, x = wr := ⟨_, rfl⟩
    obtain ⟨lk, hlk⟩ : ∃ lk : List Flt, lk = l.take k := ⟨_, rfl⟩
    obtain ⟨ld, hld⟩ : ∃ ld : List Flt, ld = l.drop k := ⟨_, rfl⟩
    have HST := Lib.hid (show SrcF w (.slice (some ⟨b, o, none⟩) k c) lk from hlk ▸ Src.take HS.out k hk)
    obtain ⟨Ad, hA, HSD⟩ : ∃ Ad : Addr, (if c = k then some (⟨b, o, none⟩ : Addr) else some ⟨b, o + k * 5, none⟩) = some Ad ∧ Hid (SrcF w (.slice (some Ad) (l.length - k) (c - k)) ld) := by
      by_cases hck : c = k
      · refine ⟨⟨b, o, none⟩, by simp [hck], Lib.hid ?_⟩
        rw [hld, List.drop_of_length_le (by omega), show l.length - k = 0 by omega]
        exact Src.none_left w 5 b o (c - k) Flt.cells (by omega)
      · exact ⟨⟨b, o + k * 5, none⟩, by simp [hck], Lib.hid (hld ▸ Src.drop HS.out k)⟩
    have hkl : lk.length ≤ 1048576 := by rw [hlk, List.length_take]; omega
    have hdl : ld.length ≤ 1048576 := by rw [hld, List.length_drop]; omega
    have HLK := Lib.hid hlk
    have HLD := Lib.hid hld
    clear hlk hld
    have hkc : k ≤ c := by omega
    have bx0 : w1.cell? ⟨w.heap.size, 0, none⟩ = some (.int .i64 x.prio) := (bcF (BX.out.ext hx)).1
    have hbx := (BX.out.ext hx).lt
    by_cases hlt : k < l.length
    · have hltz : (k : Int) < (l.length : Int) := by omega
      obtain ⟨hbw, hcell⟩ := HR.out k l[k] (List.getElem?_eq_getElem hlt)
      have hky := kF_is (fun x : Flt => x.prio) l k hlt
      generalize l[k] = y at hcell hky
      have HKY := Lib.hid (show kF (fun x : Flt => x.prio) l k = y.prio from hky)
      have cy : w1.cell? ⟨b, o + k * 5, none⟩ = some (.int .i64 y.prio) := by rw [Ext.cell hx (by simp; omega), Ext.cell E0 hbw]; exact hcell 0 _ rfl
      have hbw1 : b < w1.heap.size := by have := Ext.size hx; simp at this; omega
      clear hcell hky
      by_cases hlk : y.prio < x.prio
      · (go_wp2_with fail; refine wp_region_ext (by kernel_rfl) (by kernel_rfl) ?_; (repeat (first | go_big_quiet_step (fail) | quiet_step (fail))); refine wpQuiet_nil ?_; intro wq hbq)
        go_wp2_with fail
        go_roundw
        case rel => exact ⟨k + 1, by go_num, by omega, Lib.hid (fun t ht => by
          rcases Nat.lt_or_ge t k with h | h
          · exact H1.out t h
          · obtain rfl : t = k := by omega
            rw [HKY.out]; exact hlk), hx.trans hbq⟩
        case measure => (simp [intOf]; try omega)
      · have H2 := Lib.hid (show k < l.length → x.prio ≤ kF (fun x : Flt => x.prio) l k from fun _ => by rw [HKY.out]; omega)
        (go_wp2_with fail; refine wp_region_ext (by kernel_rfl) (by kernel_rfl) ?_; (repeat (first | go_big_quiet_step (fail) | quiet_step (fail))); refine wpQuiet_nil ?_; intro wq hbq)
        have X1 := hx.trans hbq
        clear hbq hx
        have hs1 := Ext.size X1
        simp at hs1
        obtain ⟨q0, q1, q2, q3, q4, qg⟩ := bcF (BX.out.ext X1)
        go_wp2_with (at_builtin; refine app_srcF rfl (own_fresh wq wq.heap.size _ _ _ _ rfl (Nat.le_refl _)) (HST.out.ext (by (repeat (first | (with_reducible exact Ext.refl _) | (with_reducible assumption) | (with_reducible apply Ext.alloc) | (with_reducible apply Ext.drew) | (with_reducible apply Ext.drewN) | ((with_reducible refine Ext.setCell ?_ ?_ _); rotate_left; (focus (first | (simp; done) | (simp; omega) | omega))) | (with_reducible refine Ext.trans ?_ (by assumption)))))) (by simp; omega) ((Ext.refl wq).alloc _) rfl rfl rfl rfl ?_; intro v2 w2 hown2 D2; obtain ⟨A2, n2, c2, rfl⟩ := Own.form hown2 Flt.len; have HO2 := Lib.hid hown2; clear hown2)
        have X2 := X1.trans D2
        have EQ : Ext w wq := E0.trans X1
        have E2 := EQ.trans D2
        obtain ⟨q0, q1, q2, q3, q4, qg⟩ := bcF (BX.out.ext X2)
        go_region_held3 (fun w' => w'.cell? ⟨w.heap.size, 0, none⟩ = some (.int .i64 x.prio) ∧ w'.cell? ⟨w.heap.size, 1, none⟩ = some (.int .i64 x.field) ∧ w'.cell? ⟨w.heap.size, 2, none⟩ = some (.int .i64 x.mask) ∧ w'.cell? ⟨w.heap.size, 3, none⟩ = some (.int .i64 x.value) ∧ w'.cell? ⟨w.heap.size, 4, none⟩ = some (.int .i64 x.target)) (first | (with_reducible exact ⟨q0, q1, q2, q3, q4⟩) | go_keep)
          (first | (refine step_appF wq _ (by rfl) _ _ (by rfl) _ _ ([] ++ lk) [x] (by rfl) (by rfl) (src_oneF (by first | (with_reducible exact blkN_new (by simp)) | (with_reducible exact Blk.drew (blkN_new (by simp))))) (Own.ext HO2.out (by (repeat (first | (with_reducible exact Ext.refl _) | (with_reducible assumption) | (with_reducible apply Ext.alloc) | (with_reducible apply Ext.drew) | (with_reducible apply Ext.drewN) | ((with_reducible refine Ext.setCell ?_ ?_ _); rotate_left; (focus (first | (simp; done) | (simp; omega) | omega))) | (with_reducible refine Ext.trans ?_ (by assumption)))))) (by simp; omega) (by (repeat (first | (with_reducible exact Ext.refl _) | (with_reducible assumption) | (with_reducible apply Ext.alloc) | (with_reducible apply Ext.drew) | (with_reducible apply Ext.drewN) | ((with_reducible refine Ext.setCell ?_ ?_ _); rotate_left; (focus (first | (simp; done) | (simp; omega) | omega))) | (with_reducible refine Ext.trans ?_ (by assumption))))) ?_; intro A3 n3 c3 w3 O3 X3; have HO3 := Lib.hid O3; clear O3; obtain ⟨q0, q1, q2, q3, q4, qg⟩ := bcF (BX.out.ext (X1.trans X3))) | (refine step_appF wq _ (by rfl) _ _ (by rfl) _ _ ([] ++ lk ++ [x]) ld (by rfl) (by simp [Act.eval, Act.put, hA]) (HSD.out.ext (by (repeat (first | (with_reducible exact Ext.refl _) | (with_reducible assumption) | (with_reducible apply Ext.alloc) | (with_reducible apply Ext.drew) | (with_reducible apply Ext.drewN) | ((with_reducible refine Ext.setCell ?_ ?_ _); rotate_left; (focus (first | (simp; done) | (simp; omega) | omega))) | (with_reducible refine Ext.trans ?_ (by assumption)))))) (Own.ext HO3.out (by (repeat (first | (with_reducible exact Ext.refl _) | (with_reducible assumption) | (with_reducible apply Ext.alloc) | (with_reducible apply Ext.drew) | (with_reducible apply Ext.drewN) | ((with_reducible refine Ext.setCell ?_ ?_ _); rotate_left; (focus (first | (simp; done) | (simp; omega) | omega))) | (with_reducible refine Ext.trans ?_ (by assumption)))))) (by simp; omega) (by (repeat (first | (with_reducible exact Ext.refl _) | (with_reducible assumption) | (with_reducible apply Ext.alloc) | (with_reducible apply Ext.drew) | (with_reducible apply Ext.drewN) | ((with_reducible refine Ext.setCell ?_ ?_ _); rotate_left; (focus (first | (simp; done) | (simp; omega) | omega))) | (with_reducible refine Ext.trans ?_ (by assumption))))) ?_; intro A4 n4 c4 w4 O4 X4; have HO4 := Lib.hid O4; clear O4; obtain ⟨q0, q1, q2, q3, q4, qg⟩ := bcF (BX.out.ext (X1.trans X4))))
        all_goals
          go_wp2_with fail
          go_ret
          exact ⟨A4, n4, c4, _, rfl, Own.mono HO4.out (by omega), by rw [HLK.out, HLD.out]; simpa using put_perm l x k, fun hs => by rw [HLK.out, HLD.out]; simpa using put_asc hk H1.out H2.out hs, EQ.trans X4⟩
    · have hltz : ¬ (k : Int) < (l.length : Int) := by omega
      have H2 := Lib.hid (show k < l.length → x.prio ≤ kF (fun x : Flt => x.prio) l k from fun h => absurd h hlt)
      (go_wp2_with fail; refine wp_region_ext (by kernel_rfl) (by kernel_rfl) ?_; (repeat (first | go_big_quiet_step (fail) | quiet_step (fail))); refine wpQuiet_nil ?_; intro wq hbq)
      have X1 := hx.trans hbq
      clear hbq hx
      have hs1 := Ext.size X1
      simp at hs1
      obtain ⟨q0, q1, q2, q3, q4, qg⟩ := bcF (BX.out.ext X1)
      go_wp2_with (at_builtin; refine app_srcF rfl (own_fresh wq wq.heap.size _ _ _ _ rfl (Nat.le_refl _)) (HST.out.ext (by (repeat (first | (with_reducible exact Ext.refl _) | (with_reducible assumption) | (with_reducible apply Ext.alloc) | (with_reducible apply Ext.drew) | (with_reducible apply Ext.drewN) | ((with_reducible refine Ext.setCell ?_ ?_ _); rotate_left; (focus (first | (simp; done) | (simp; omega) | omega))) | (with_reducible refine Ext.trans ?_ (by assumption)))))) (by simp; omega) ((Ext.refl wq).alloc _) rfl rfl rfl rfl ?_; intro v2 w2 hown2 D2; obtain ⟨A2, n2, c2, rfl⟩ := Own.form hown2 Flt.len; have HO2 := Lib.hid hown2; clear hown2)
      have X2 := X1.trans D2
      have EQ : Ext w wq := E0.trans X1
      have E2 := EQ.trans D2
      obtain ⟨q0, q1, q2, q3, q4, qg⟩ := bcF (BX.out.ext X2)
      go_region_held3 (fun w' => w'.cell? ⟨w.heap.size, 0, none⟩ = some (.int .i64 x.prio) ∧ w'.cell? ⟨w.heap.size, 1, none⟩ = some (.int .i64 x.field) ∧ w'.cell? ⟨w.heap.size, 2, none⟩ = some (.int .i64 x.mask) ∧ w'.cell? ⟨w.heap.size, 3, none⟩ = some (.int .i64 x.value) ∧ w'.cell? ⟨w.heap.size, 4, none⟩ = some (.int .i64 x.target)) (first | (with_reducible exact ⟨q0, q1, q2, q3, q4⟩) | go_keep)
        (first | (refine step_appF wq _ (by rfl) _ _ (by rfl) _ _ ([] ++ lk) [x] (by rfl) (by rfl) (src_oneF (by first | (with_reducible exact blkN_new (by simp)) | (with_reducible exact Blk.drew (blkN_new (by simp))))) (Own.ext HO2.out (by (repeat (first | (with_reducible exact Ext.refl _) | (with_reducible assumption) | (with_reducible apply Ext.alloc) | (with_reducible apply Ext.drew) | (with_reducible apply Ext.drewN) | ((with_reducible refine Ext.setCell ?_ ?_ _); rotate_left; (focus (first | (simp; done) | (simp; omega) | omega))) | (with_reducible refine Ext.trans ?_ (by assumption)))))) (by simp; omega) (by (repeat (first | (with_reducible exact Ext.refl _) | (with_reducible assumption) | (with_reducible apply Ext.alloc) | (with_reducible apply Ext.drew) | (with_reducible apply Ext.drewN) | ((with_reducible refine Ext.setCell ?_ ?_ _); rotate_left; (focus (first | (simp; done) | (simp; omega) | omega))) | (with_reducible refine Ext.trans ?_ (by assumption))))) ?_; intro A3 n3 c3 w3 O3 X3; have HO3 := Lib.hid O3; clear O3; obtain ⟨q0, q1, q2, q3, q4, qg⟩ := bcF (BX.out.ext (X1.trans X3))) | (refine step_appF wq _ (by rfl) _ _ (by rfl) _ _ ([] ++ lk ++ [x]) ld (by rfl) (by simp [Act.eval, Act.put, hA]) (HSD.out.ext (by (repeat (first | (with_reducible exact Ext.refl _) | (with_reducible assumption) | (with_reducible apply Ext.alloc) | (with_reducible apply Ext.drew) | (with_reducible apply Ext.drewN) | ((with_reducible refine Ext.setCell ?_ ?_ _); rotate_left; (focus (first | (simp; done) | (simp; omega) | omega))) | (with_reducible refine Ext.trans ?_ (by assumption)))))) (Own.ext HO3.out (by (repeat (first | (with_reducible exact Ext.refl _) | (with_reducible assumption) | (with_reducible apply Ext.alloc) | (with_reducible apply Ext.drew) | (with_reducible apply Ext.drewN) | ((with_reducible refine Ext.setCell ?_ ?_ _); rotate_left; (focus (first | (simp; done) | (simp; omega) | omega))) | (with_reducible refine Ext.trans ?_ (by assumption)))))) (by simp; omega) (by (repeat (first | (with_reducible exact Ext.refl _) | (with_reducible assumption) | (with_reducible apply Ext.alloc) | (with_reducible apply Ext.drew) | (with_reducible apply Ext.drewN) | ((with_reducible refine Ext.setCell ?_ ?_ _); rotate_left; (focus (first | (simp; done) | (simp; omega) | omega))) | (with_reducible refine Ext.trans ?_ (by assumption))))) ?_; intro A4 n4 c4 w4 O4 X4; have HO4 := Lib.hid O4; clear O4; obtain ⟨q0, q1, q2, q3, q4, qg⟩ := bcF (BX.out.ext (X1.trans X4))))
      all_goals
        go_wp2_with fail
        go_ret
        exact ⟨A4, n4, c4, _, rfl, Own.mono HO4.out (by omega), by rw [HLK.out, HLD.out]; simpa using put_perm l x k, fun hs => by rw [HLK.out, HLD.out]; simpa using put_asc hk H1.out H2.out hs, EQ.trans X4⟩
theorem putF_any (l : List Flt) (v : Value) (x : Flt) (w : World) (h : SrcF w v l) (hl : l.length ≤ 1048576) : Calls Tryd.prog 57 #[v, fltW x] w (PutAnsF l x w) := by
  rcases h with ⟨rfl, rfl⟩ | ⟨b, o, c, rfl, hc, hm, hr⟩
  · exact putF_nil x w
  · exact putF_blk l b o c x w (.inr ⟨b, o, c, rfl, hc, hm, hr⟩) hc hm hr hl
end Go.Proofs.YtbbenppmfmphfaaDoor
