/- Copies of configurations: contracts of both sides. Printed by wip/tools/gen_cfgm.py. -/
import Derived.Test.YtidahgoihgodnaaDoorRowG
import Derived.Deep.RegionWith
import Derived.Deep.RegionLaw
import Derived.Lib.SliceRun
namespace Go.Proofs.YtidahgoihgodnaaDoor
open Go.RowKit
set_option maxRecDepth 20000
set_option maxHeartbeats 1000000
set_option linter.unusedSimpArgs false
set_option linter.unusedVariables false

/-- 'append(own, src...)' as one step of a region that draws its order. -/
theorem step_own_src {P : Program} {α : Type} {cells : α → List Value} {T E : TypeId} {i : TypeInfo} {z : Value} {k bytes : Nat} (hT : P.underlying T = some (.slice E)) (hi : P.info? E = some i) (hz : i.zero = some z) (hsz : i.size = k) (hby : i.bytes = bytes)
    (hzs : z.cells.size = k) (hk : 0 < k) (hb : bytes ≤ 1024) (hck : ∀ x, (cells x).length = k) (hc1 : ∀ x, ∀ u ∈ cells x, u.oneCell' = true)
    {ops : Array Oper} {o : Oper} {a : Act} {K : Act → World → Prop} {Q : Exit → Act → World → Prop} {EE : Prop} (bs : Nat) (wr : World) (hg : o.guard = none) (s x : Operand)
    (ho : o.op = .call { callee := .builtin .append, args := #[s, x], argTypes := #[T, T] }) (v y : Value) (l ys : List α)
    (hs : a.eval s = v) (hx : a.eval x = y) (hsrc : Src wr k cells y ys) (hown : Own wr bs E k cells v l) (hn : l.length + ys.length ≤ 100000000) (hE : bs ≤ wr.heap.size)
    (hK : ∀ v' w', Own w' bs E k cells v' (l ++ ys) → wr.grownBy w' v.ownBlock → K (a.put o.dst v') w') : if Region.wanted o (yielded ops a.tmps) = true then Oper.wp P o a wr K Q else EE := by
  have hw : Region.wanted o (yielded ops a.tmps) = true := by simp [Region.wanted, hg]
  rw [if_pos hw]
  rcases hsrc with ⟨rfl, rfl⟩ | ⟨b, off, c, rfl, hc, hm, hr⟩
  · have hrun := run_append_owned_none (P := P) (w := wr) bs T o.type E i k hT hi v l.length (l.flatMap cells) hown
    unfold Oper.wp
    simp [execOp, ho, resolve, invoke, builtin, hs, hx, hrun, Result.andThen]
    exact hK _ _ (by rw [List.append_nil]; exact hown) (World.grownBy.refl _ _)
  · obtain ⟨v', w', hrun, r1, r2, _⟩ := run_append_own (P := P) (w := wr) bs T o.type E i z k bytes hT hi hz hsz hby hzs hk v l.length (l.flatMap cells) hown ⟨b, off, none⟩ ys.length c (ys.flatMap cells) (flat_length k cells hck ys)
      (fun j u hj => by
        have e : ((⟨b, off, none⟩ : Addr).add j) = ⟨b, off + j, none⟩ := by unfold Addr.add; split <;> simp_all
        rw [e]
        exact flat_cell hk hck (fun i x hi => (hr i x hi).2) j u hj)
      (fun u hu => by
        obtain ⟨y, _, hy⟩ := List.mem_flatMap.1 hu
        exact hc1 y u hy) (by unfold maxLen; omega) (by
        have := Nat.mul_le_mul (show l.length + ys.length ≤ 100000000 from hn) hb
        omega) hE
    unfold Oper.wp
    simp [execOp, ho, resolve, invoke, builtin, hs, hx, hrun, Result.andThen]
    exact hK _ _ (by unfold Own; rw [List.flatMap_append, List.length_append]; exact r1) r2
/-- An empty row of one's own, just made. -/
theorem own_fresh {α : Type} (w : World) (bs : Nat) (e : TypeId) (k : Nat) (cells : α → List Value) (g : Nat) (hg : w.heap.size = g) (hb : bs ≤ g) : Own (w.alloc (.cells #[] e)) bs e k cells (.slice (some ⟨g, 0, none⟩) 0 0) ([] : List α) := by
  subst hg
  have := World.ownsRow_lit (base := bs) (e := e) (size := k) w #[] 0 hb (by unfold maxLen; omega) (by simp)
  unfold Own
  simpa using this
theorem clone_Class_any (v : Value) (l : List Cls) (w : World) (h : SrcC w v l) (hl : l.length ≤ 1048576) :
    Calls Tryd.prog 59 #[v] w fun e w' => ∃ u, e = .returned u ∧ OwnC w' w.heap.size u l ∧ Ext w w' := by
  have hnil : ∀ (w : World) (a : Option Addr) (n c n' c' : Nat), (binOp .eql 27 (.slice a n c) (.slice none n' c')).run Tryd.prog w = .ok (.bool a.isNone) w := fun w a n c n' c' => Lib.run_eql_slice_nil w _ _ a n c n' c' Tryd.underlying27
  rcases h with ⟨rfl, rfl⟩ | ⟨b, o, c, rfl, hc, hm, hr⟩
  · go_enter Tryd.func59, Tryd.ntmps59
    go_wp2
    go_ret
    exact ⟨_, rfl, World.ownsRow_nil _ _ _ _, Ext.refl _⟩
  · have HS := Lib.hid (show SrcC w (.slice (some ⟨b, o, none⟩) l.length c) l from .inr ⟨b, o, c, rfl, hc, hm, hr⟩)
    clear hr
    go_enter Tryd.func59, Tryd.ntmps59
    go_wp2_with (at_builtin; refine app_srcC rfl (own_fresh w w.heap.size _ _ _ _ rfl (Nat.le_refl _)) (HS.out.ext (by (repeat (first | (with_reducible exact Ext.refl _) | (with_reducible assumption) | (with_reducible apply Ext.alloc) | (with_reducible apply Ext.drew) | (with_reducible apply Ext.drewN) | ((with_reducible refine Ext.setCell ?_ ?_ _); rotate_left; (focus (first | (simp; done) | (simp; omega) | omega))) | (with_reducible refine Ext.trans ?_ (by assumption)))))) (by simp; omega) ((Ext.refl w).alloc _) rfl rfl rfl rfl ?_; intro v2 w2 hown2 D2)
    have HO := Lib.hid hown2
    clear hown2
    go_wp2
    go_ret
    exact ⟨_, rfl, by have := HO.out; simpa using this, D2⟩
theorem clone_Filter_any (v : Value) (l : List Flt) (w : World) (h : SrcF w v l) (hl : l.length ≤ 1048576) :
    Calls Tryd.prog 60 #[v] w fun e w' => ∃ u, e = .returned u ∧ OwnF w' w.heap.size u l ∧ Ext w w' := by
  have hnil : ∀ (w : World) (a : Option Addr) (n c n' c' : Nat), (binOp .eql 28 (.slice a n c) (.slice none n' c')).run Tryd.prog w = .ok (.bool a.isNone) w := fun w a n c n' c' => Lib.run_eql_slice_nil w _ _ a n c n' c' Tryd.underlying28
  rcases h with ⟨rfl, rfl⟩ | ⟨b, o, c, rfl, hc, hm, hr⟩
  · go_enter Tryd.func60, Tryd.ntmps60
    go_wp2
    go_ret
    exact ⟨_, rfl, World.ownsRow_nil _ _ _ _, Ext.refl _⟩
  · have HS := Lib.hid (show SrcF w (.slice (some ⟨b, o, none⟩) l.length c) l from .inr ⟨b, o, c, rfl, hc, hm, hr⟩)
    clear hr
    go_enter Tryd.func60, Tryd.ntmps60
    go_wp2_with (at_builtin; refine app_srcF rfl (own_fresh w w.heap.size _ _ _ _ rfl (Nat.le_refl _)) (HS.out.ext (by (repeat (first | (with_reducible exact Ext.refl _) | (with_reducible assumption) | (with_reducible apply Ext.alloc) | (with_reducible apply Ext.drew) | (with_reducible apply Ext.drewN) | ((with_reducible refine Ext.setCell ?_ ?_ _); rotate_left; (focus (first | (simp; done) | (simp; omega) | omega))) | (with_reducible refine Ext.trans ?_ (by assumption)))))) (by simp; omega) ((Ext.refl w).alloc _) rfl rfl rfl rfl ?_; intro v2 w2 hown2 D2)
    have HO := Lib.hid hown2
    clear hown2
    go_wp2
    go_ret
    exact ⟨_, rfl, by have := HO.out; simpa using this, D2⟩
end Go.Proofs.YtidahgoihgodnaaDoor
