/- A configuration if it is valid: contracts of both sides; results that are configurations. Printed by wip/tools/gen_setl.py. -/
import Derived.Test.YtidahgoihgodnaaDoorGood
import Derived.Test.YtidahgoihgodnaaDoorCfgD
namespace Go.Proofs.YtidahgoihgodnaaDoor
open Go.RowKit
set_option maxRecDepth 20000
set_option maxHeartbeats 1000000
set_option linter.unusedSimpArgs false
set_option linter.unusedVariables false

def selN (g : Bool) (n : ByteArray) : ByteArray := if g then n else ⟨#[]⟩
def selA (g : Bool) (a : Option Addr) : Option Addr := if g then a else none
def selL (g : Bool) (k : Nat) : Nat := if g then k else 0
def selD (g : Bool) (d : Int) : Int := if g then d else 0
abbrev ifV (g : Bool) (n : ByteArray) (A1 : Option Addr) (c1 k1 : Nat) (A2 : Option Addr) (c2 k2 : Nat) (d : Int) : Value := cfgV (selN g n) (.slice (selA g A1) (selL g c1) (selL g k1)) (.slice (selA g A2) (selL g c2) (selL g k2)) (selD g d)
/-- The configuration, if it is valid. -/
def ifR (n : ByteArray) (cs : List Cls) (fs : List Flt) (d : Int) : CfgR := if goodB n cs fs d then ⟨n, cs, fs, d, true⟩ else noCfg
theorem retC_if {n : ByteArray} {A1 A2 : Option Addr} {c1 k1 c2 k2 : Nat} {d : Int} {cs : List Cls} {fs : List Flt} {w w' : World} (hc : OwnC w' w.heap.size (.slice A1 c1 k1) cs) (hf : OwnF w' w.heap.size (.slice A2 c2 k2) fs) (hx : Ext w w') :
    RetC (ifR n cs fs d) w (.returned (.tuple #[ifV (goodB n cs fs d) n A1 c1 k1 A2 c2 k2 d, .bool (goodB n cs fs d)])) w' := by
  unfold ifR
  cases goodB n cs fs d
  · exact RetC.no hx
  · exact ⟨_, _, rfl, hc, hf, hx⟩
theorem Own.setOff {α : Type} {w : World} {base : Nat} {e : TypeId} {k : Nat} {cells : α → List Value} {v : Value} {l : List α} (h : Own w base e k cells v l) {b : Nat} (hb : v.ownBlock ≠ some b) (i : Nat) (u : Value) : Own (w.setCell ⟨b, i, none⟩ u) base e k cells v l :=
  Own.kept h (grown_setCell (World.grownBy.refl w (some b)) i u) (fun g' hg' => .inr (by cases hg'; exact hb))
theorem Own.set_at' {α : Type} {w : World} {base : Nat} {e : TypeId} {k g cap c : Nat} {cells : α → List Value} {l : List α} (h : Own w base e k cells (.slice (some ⟨g, 0, none⟩) c cap) l) (i j : Nat) (x x' : α) (u : Value)
    (hx : l[i]? = some x) (hj : j < k) (hck : ∀ x, (cells x).length = k) (hc : cells x' = (cells x).set j u) :
    Own (w.setCell ⟨g, i * k + j, none⟩ u) base e k cells (.slice (some ⟨g, 0, none⟩) c cap) (l.set i x') := by
  obtain ⟨A, c', hv, _⟩ := Own.rd h hck
  injection hv with _ h2 h3
  subst h2 h3
  have := Own.set_at h i j x x' u hx hj hck hc
  rwa [List.length_set] at this
theorem retC_no {R : CfgR} (hR : R = noCfg) {w w' : World} (h : Ext w w') : RetC R w (.returned (.tuple #[cfgV ⟨#[]⟩ (.slice none 0 0) (.slice none 0 0) 0, .bool false])) w' := hR ▸ RetC.no h
theorem retC_eq {R R' : CfgR} (hR : R = R') {w w' : World} {e : Ending} (h : RetC R' w e w') : RetC R w e w' := hR ▸ h
theorem impl_ifConfig_any (n : ByteArray) (A1 A2 : Option Addr) (c1 c2 k1 k2 : Nat) (d : Int) (cs : List Cls) (fs : List Flt) (w : World) (hk : Keys w) (hc : RdC w (.slice A1 c1 k1) cs) (hf : RdF w (.slice A2 c2 k2) fs) (hz : n.size + cs.length + fs.length ≤ 1048576) :
    Calls Tryd.prog 30 #[cfgV n (.slice A1 c1 k1) (.slice A2 c2 k2) d] w fun e w' => e = .returned (.tuple #[ifV (goodB n cs fs d) n A1 c1 k1 A2 c2 k2 d, .bool (goodB n cs fs d)]) ∧ Ext w w' := by
  have HC := Lib.hid hc
  have HF := Lib.hid hf
  have HK := Lib.hid hk
  clear hc hf hk
  have E0 : Ext w ((w.alloc (.cells #[.string n, .slice A1 c1 k1, .slice A2 c2 k2, .int .i64 d] 30)).alloc (.cells #[.string ⟨#[]⟩, .slice none 0 0, .slice none 0 0, .int .i64 0] 30)) := by (repeat (first | (with_reducible exact Ext.refl _) | (with_reducible assumption) | (with_reducible apply Ext.alloc) | (with_reducible apply Ext.drew) | (with_reducible apply Ext.drewN) | ((with_reducible refine Ext.setCell ?_ ?_ _); rotate_left; (focus (first | (simp; done) | (simp; omega) | omega))) | (with_reducible refine Ext.trans ?_ (by assumption))))
  have BX := Lib.hid ((Box.new w n (.slice A1 c1 k1) (.slice A2 c2 k2) d 30).ext ((Ext.refl _).alloc (.cells #[.string ⟨#[]⟩, .slice none 0 0, .slice none 0 0, .int .i64 0] 30)))
  have BR := Lib.hid (show Blk ((w.alloc (.cells #[.string n, .slice A1 c1 k1, .slice A2 c2 k2, .int .i64 d] 30)).alloc (.cells #[.string ⟨#[]⟩, .slice none 0 0, .slice none 0 0, .int .i64 0] 30)) (w.heap.size + 1) 30 #[.string ⟨#[]⟩, .slice none 0 0, .slice none 0 0, .int .i64 0] by
    have := Blk.new (w.alloc (.cells #[.string n, .slice A1 c1 k1, .slice A2 c2 k2, .int .i64 d] 30)) 30 #[.string ⟨#[]⟩, .slice none 0 0, .slice none 0 0, .int .i64 0]
    simpa using this)
  have HG : ∀ b, goodB n cs fs d = b → Hid (ifV (goodB n cs fs d) n A1 c1 k1 A2 c2 k2 d = ifV b n A1 c1 k1 A2 c2 k2 d) := fun b h => by rw [h]; exact Lib.hid rfl
  go_enter Tryd.func30, Tryd.ntmps30
  go_wp2_with fail
  refine (impl_IsConfig_any n _ _ d cs fs _ (HK.out.ext E0) (HC.out.ext E0) (HF.out.ext E0) hz).mono ?_
  rintro e w1 ⟨rfl, F1⟩
  have EX := Lib.hid (E0.trans F1)
  obtain ⟨⟨r0, r1, r2, r3⟩, ⟨f0, f1, f2, f3⟩, hfz⟩ := C4.blk (BR.out.ext F1)
  obtain ⟨q0, q1, q2, q3, q4⟩ := BX.out.ext F1
  clear E0 F1
  cases hr : goodB n cs fs d
  · have HH := HG false hr
    clear HG
    go_wp2
    refine bodyPost_ret (v := .tuple #[cfgV ⟨#[]⟩ (.slice none 0 0) (.slice none 0 0) 0, .bool false]) (by simp [results, Tryd.results30, go_sem, *]) rfl ⟨by first | rfl | (rw [HH.out]; rfl) | (rw [hr]; rfl), ?_⟩
    have hx := EX.out
    (repeat (first | (with_reducible exact Ext.refl _) | (with_reducible assumption) | (with_reducible apply Ext.alloc) | (with_reducible apply Ext.drew) | (with_reducible apply Ext.drewN) | ((with_reducible refine Ext.setCell ?_ ?_ _); rotate_left; (focus (first | (simp; done) | (simp; omega) | omega))) | (with_reducible refine Ext.trans ?_ (by assumption))))
  · have HH := HG true hr
    clear HG
    go_wp2
    refine bodyPost_ret (v := .tuple #[cfgV n (.slice A1 c1 k1) (.slice A2 c2 k2) d, .bool true]) (by simp [results, Tryd.results30, go_sem, *]) rfl ⟨by first | rfl | (rw [HH.out]; rfl) | (rw [hr]; rfl), ?_⟩
    have hx := EX.out
    (repeat (first | (with_reducible exact Ext.refl _) | (with_reducible assumption) | (with_reducible apply Ext.alloc) | (with_reducible apply Ext.drew) | (with_reducible apply Ext.drewN) | ((with_reducible refine Ext.setCell ?_ ?_ _); rotate_left; (focus (first | (simp; done) | (simp; omega) | omega))) | (with_reducible refine Ext.trans ?_ (by assumption))))
theorem spec_cfIf_any (n : ByteArray) (A1 A2 : Option Addr) (c1 c2 k1 k2 : Nat) (d : Int) (cs : List Cls) (fs : List Flt) (w : World) (hk : Keys w) (hc : RdC w (.slice A1 c1 k1) cs) (hf : RdF w (.slice A2 c2 k2) fs) (hz : n.size + cs.length + fs.length ≤ 1048576) :
    Calls Tryd.prog 23 #[cfgV n (.slice A1 c1 k1) (.slice A2 c2 k2) d] w fun e w' => e = .returned (.tuple #[ifV (goodB n cs fs d) n A1 c1 k1 A2 c2 k2 d, .bool (goodB n cs fs d)]) ∧ Ext w w' := by
  have HC := Lib.hid hc
  have HF := Lib.hid hf
  have HK := Lib.hid hk
  clear hc hf hk
  have E0 : Ext w ((w.alloc (.cells #[.string n, .slice A1 c1 k1, .slice A2 c2 k2, .int .i64 d] 30)).alloc (.cells #[.string ⟨#[]⟩, .slice none 0 0, .slice none 0 0, .int .i64 0] 30)) := by (repeat (first | (with_reducible exact Ext.refl _) | (with_reducible assumption) | (with_reducible apply Ext.alloc) | (with_reducible apply Ext.drew) | (with_reducible apply Ext.drewN) | ((with_reducible refine Ext.setCell ?_ ?_ _); rotate_left; (focus (first | (simp; done) | (simp; omega) | omega))) | (with_reducible refine Ext.trans ?_ (by assumption))))
  have BX := Lib.hid ((Box.new w n (.slice A1 c1 k1) (.slice A2 c2 k2) d 30).ext ((Ext.refl _).alloc (.cells #[.string ⟨#[]⟩, .slice none 0 0, .slice none 0 0, .int .i64 0] 30)))
  have BR := Lib.hid (show Blk ((w.alloc (.cells #[.string n, .slice A1 c1 k1, .slice A2 c2 k2, .int .i64 d] 30)).alloc (.cells #[.string ⟨#[]⟩, .slice none 0 0, .slice none 0 0, .int .i64 0] 30)) (w.heap.size + 1) 30 #[.string ⟨#[]⟩, .slice none 0 0, .slice none 0 0, .int .i64 0] by
    have := Blk.new (w.alloc (.cells #[.string n, .slice A1 c1 k1, .slice A2 c2 k2, .int .i64 d] 30)) 30 #[.string ⟨#[]⟩, .slice none 0 0, .slice none 0 0, .int .i64 0]
    simpa using this)
  have HG : ∀ b, goodB n cs fs d = b → Hid (ifV (goodB n cs fs d) n A1 c1 k1 A2 c2 k2 d = ifV b n A1 c1 k1 A2 c2 k2 d) := fun b h => by rw [h]; exact Lib.hid rfl
  go_enter Tryd.func23, Tryd.ntmps23
  go_wp2_with fail
  refine (spec_cfGood_any n _ _ d cs fs _ (HK.out.ext E0) (HC.out.ext E0) (HF.out.ext E0) hz).mono ?_
  rintro e w1 ⟨rfl, F1⟩
  have EX := Lib.hid (E0.trans F1)
  obtain ⟨⟨r0, r1, r2, r3⟩, ⟨f0, f1, f2, f3⟩, hfz⟩ := C4.blk (BR.out.ext F1)
  obtain ⟨q0, q1, q2, q3, q4⟩ := BX.out.ext F1
  clear E0 F1
  cases hr : goodB n cs fs d
  · have HH := HG false hr
    clear HG
    go_wp2
    refine bodyPost_ret (v := .tuple #[cfgV ⟨#[]⟩ (.slice none 0 0) (.slice none 0 0) 0, .bool false]) (by simp [results, Tryd.results23, go_sem, *]) rfl ⟨by first | rfl | (rw [HH.out]; rfl) | (rw [hr]; rfl), ?_⟩
    have hx := EX.out
    (repeat (first | (with_reducible exact Ext.refl _) | (with_reducible assumption) | (with_reducible apply Ext.alloc) | (with_reducible apply Ext.drew) | (with_reducible apply Ext.drewN) | ((with_reducible refine Ext.setCell ?_ ?_ _); rotate_left; (focus (first | (simp; done) | (simp; omega) | omega))) | (with_reducible refine Ext.trans ?_ (by assumption))))
  · have HH := HG true hr
    clear HG
    go_wp2
    refine bodyPost_ret (v := .tuple #[cfgV n (.slice A1 c1 k1) (.slice A2 c2 k2) d, .bool true]) (by simp [results, Tryd.results23, go_sem, *]) rfl ⟨by first | rfl | (rw [HH.out]; rfl) | (rw [hr]; rfl), ?_⟩
    have hx := EX.out
    (repeat (first | (with_reducible exact Ext.refl _) | (with_reducible assumption) | (with_reducible apply Ext.alloc) | (with_reducible apply Ext.drew) | (with_reducible apply Ext.drewN) | ((with_reducible refine Ext.setCell ?_ ?_ _); rotate_left; (focus (first | (simp; done) | (simp; omega) | omega))) | (with_reducible refine Ext.trans ?_ (by assumption))))
end Go.Proofs.YtidahgoihgodnaaDoor
