/- A class dropped from a configuration: the plain side. -/
import Derived.Test.YtidahgoihgodnaaDoorSetL
namespace Go.Proofs.YtidahgoihgodnaaDoor
open Go.RowKit
set_option maxRecDepth 20000
set_option linter.unusedSimpArgs false
set_option linter.unusedVariables false

theorem ids_next {cs : List Cls} (h : idsB cs = true) (i : Nat) (hi : i + 1 < cs.length) : idAt cs i < idAt cs (i + 1) := by
  simp only [idsB, Bool.and_eq_true] at h
  have := noN_at h.1 hi
  simp only [idBad, Bool.or_eq_false_iff, Bool.and_eq_false_iff, decide_eq_false_iff_not, Nat.add_sub_cancel] at this
  omega
theorem ids_inc {cs : List Cls} (h : idsB cs = true) (i : Nat) : ∀ k, i + k + 1 < cs.length → idAt cs i < idAt cs (i + k + 1)
  | 0, hk => ids_next h i hk
  | k + 1, hk => Int.lt_trans (ids_inc h i k (by omega)) (ids_next h (i + k + 1) hk)
theorem ids_lt {cs : List Cls} (h : idsB cs = true) {i j : Nat} (hij : i < j) (hj : j < cs.length) : idAt cs i < idAt cs j := by
  obtain ⟨k, rfl⟩ : ∃ k, j = i + k + 1 := ⟨j - i - 1, by omega⟩
  exact ids_inc h i k hj
theorem good_ids {n : ByteArray} {cs : List Cls} {fs : List Flt} {d : Int} (h : goodB n cs fs d = true) : idsB cs = true := good_cond h 2 (by omega) (by omega)
theorem findI_at {cs : List Cls} {id : Int} {u : Nat} (h : findI cs id = u) (hu : u < cs.length) : idAt cs u = id := by
  have hs := (fndN_spec (fun k => clsAt cs k fun x => x.id == id) cs.length 0).2 u h
  have := hs.1
  rw [clsAt_is cs u _ hu] at this
  rw [idAt_is cs u hu]
  simpa using this
theorem C8.blk {w : World} {g : Nat} {T : TypeId} {a0 a1 a2 a3 a4 a5 a6 a7 : Value} (h : Blk w g T #[a0, a1, a2, a3, a4, a5, a6, a7]) :
    w.cell? ⟨g, 0, none⟩ = some a0 ∧ w.cell? ⟨g, 1, none⟩ = some a1 ∧ w.cell? ⟨g, 7, none⟩ = some a7 ∧ g < w.heap.size := by
  have hl := h.lt
  unfold Blk at h
  exact ⟨by simp [World.cell?, h], by simp [World.cell?, h], by simp [World.cell?, h], hl⟩
theorem C8w.blk {w : World} {g : Nat} {T : TypeId} {a0 a1 a2 a3 a4 a5 a6 a7 : Value} (h : Blk w g T #[a0, a1, a2, a3, a4, a5, a6, a7]) :
    (w.cell? ⟨g, 0, none⟩ = some a0 ∧ w.cell? ⟨g, 1, none⟩ = some a1 ∧ w.cell? ⟨g, 2, none⟩ = some a2 ∧ w.cell? ⟨g, 3, none⟩ = some a3 ∧ w.cell? ⟨g, 4, none⟩ = some a4 ∧ w.cell? ⟨g, 5, none⟩ = some a5 ∧ w.cell? ⟨g, 6, none⟩ = some a6 ∧ w.cell? ⟨g, 7, none⟩ = some a7) ∧
    w.frozen? ⟨g, 0, none⟩ = false ∧ w.frozen? ⟨g, 1, none⟩ = false ∧ w.frozen? ⟨g, 2, none⟩ = false ∧ w.frozen? ⟨g, 3, none⟩ = false ∧ w.frozen? ⟨g, 4, none⟩ = false ∧ w.frozen? ⟨g, 5, none⟩ = false ∧ w.frozen? ⟨g, 6, none⟩ = false ∧ w.frozen? ⟨g, 7, none⟩ = false := by
  unfold Blk at h
  simp [World.cell?, World.frozen?, h]
theorem Blk.set8 {w : World} {g : Nat} {T : TypeId} {a0 a1 a2 a3 a4 a5 a6 a7 : Value} (h : Blk w g T #[a0, a1, a2, a3, a4, a5, a6, a7]) (b0 b1 b2 b3 b4 b5 b6 b7 : Value) :
    Blk ((((((((w.setCell ⟨g, 0, none⟩ b0).setCell ⟨g, 1, none⟩ b1).setCell ⟨g, 2, none⟩ b2).setCell ⟨g, 3, none⟩ b3).setCell ⟨g, 4, none⟩ b4).setCell ⟨g, 5, none⟩ b5).setCell ⟨g, 6, none⟩ b6).setCell ⟨g, 7, none⟩ b7) g T #[b0, b1, b2, b3, b4, b5, b6, b7] := by
  have := (((((((h.set_ 0 b0).set_ 1 b1).set_ 2 b2).set_ 3 b3).set_ 4 b4).set_ 5 b5).set_ 6 b6).set_ 7 b7
  simpa using this
theorem Blk.set4 {w : World} {g : Nat} {T : TypeId} {a0 a1 a2 a3 : Value} (h : Blk w g T #[a0, a1, a2, a3]) (b0 b1 b2 b3 : Value) :
    Blk ((((w.setCell ⟨g, 0, none⟩ b0).setCell ⟨g, 1, none⟩ b1).setCell ⟨g, 2, none⟩ b2).setCell ⟨g, 3, none⟩ b3) g T #[b0, b1, b2, b3] := by
  have := (((h.set_ 0 b0).set_ 1 b1).set_ 2 b2).set_ 3 b3
  simpa using this
theorem blkT0 (W : World) (cs : Array Value) (t : TypeId) (o : Obj) : Blk ((W.alloc (.cells cs t)).alloc o).drew W.heap.size t cs := ((Blk.new W t cs).ext ((Ext.refl _).alloc o)).drew
theorem blkT1 (W : World) (cs : Array Value) (t : TypeId) (o : Obj) : Blk ((W.alloc o).alloc (.cells cs t)).drew (W.heap.size + 1) t cs := by
  have := Blk.drew (Blk.new (W.alloc o) t cs)
  simpa using this
theorem Own.ne_blk {α : Type} {w : World} {b : Nat} {e : TypeId} {k : Nat} {cells : α → List Value} {v : Value} {l : List α} (h : Own w b e k cells v l) {g : Nat} {e' : TypeId} {cs : Array Value} (hB : Blk w g e' cs) (hne : e ≠ e') : v.ownBlock ≠ some g := by
  intro hg
  rcases h.2 with ⟨h1, _⟩ | ⟨g1, c1, cur1, h1, _, hh1, _⟩
  · subst h1; cases hg
  · subst h1
    cases hg
    unfold Blk at hB
    rw [hB] at hh1
    injection hh1 with hh1
    injection hh1 with _ h3 _
    exact hne h3.symm
/-- The classes but those with an Id. -/
def dropL (cs : List Cls) (id : Int) : List Cls := cs.filter fun x => x.id != id
theorem dropL_len (cs : List Cls) (id : Int) : (dropL cs id).length ≤ cs.length := List.length_filter_le _ _
theorem good_drop {cs : List Cls} {id : Int} {u : Nat} (hg : idsB cs = true) (h : findI cs id = u) (hu : u < cs.length) : dropL cs id = cs.take u ++ cs.drop (u + 1) := by
  have hid := findI_at h hu
  have e : cs = cs.take u ++ cs[u] :: cs.drop (u + 1) := by rw [← List.drop_eq_getElem_cons hu, List.take_append_drop]
  unfold dropL
  conv => lhs; rw [e]
  rw [List.filter_append, List.filter_cons_of_neg (by rw [← idAt_is cs u hu, hid]; simp)]
  congr 1
  · refine List.filter_eq_self.2 fun x hx => ?_
    obtain ⟨i, hi, rfl⟩ := List.mem_iff_getElem.1 hx
    rw [List.length_take] at hi
    have h1 := ids_lt hg (show i < u by omega) hu
    rw [idAt_is cs i (by omega)] at h1
    rw [List.getElem_take]
    simp
    omega
  · refine List.filter_eq_self.2 fun x hx => ?_
    obtain ⟨i, hi, rfl⟩ := List.mem_iff_getElem.1 hx
    rw [List.length_drop] at hi
    have h1 := ids_lt hg (show u < u + 1 + i by omega) (by omega)
    rw [idAt_is cs (u + 1 + i) (by omega)] at h1
    rw [List.getElem_drop]
    simp
    omega
theorem dropL_snoc (cs : List Cls) (id : Int) (k : Nat) (hk : k < cs.length) : dropL (cs.take (k + 1)) id = dropL (cs.take k) id ++ (if cs[k].id = id then [] else [cs[k]]) := by
  unfold dropL
  rw [List.take_succ_eq_append_getElem hk, List.filter_append]
  congr 1
  by_cases h : cs[k].id = id
  · rw [if_pos h]; simp [h]
  · rw [if_neg h]; simp [h]
/-- A class that has become a leaf takes a Limit. -/
def upLim (cs : List Cls) (par lim : Int) : List Cls := if leafIdB cs par then setLim cs (findI cs par).toNat lim else cs
theorem upLim_len (cs : List Cls) (par lim : Int) : (upLim cs par lim).length = cs.length := by
  unfold upLim
  split
  · exact setLim_len _ _ _
  · rfl
def drR (n : ByteArray) (cs : List Cls) (fs : List Flt) (d id : Int) : CfgR := if goodB n cs fs d && leafIdB cs id then ifR n (upLim (dropL cs id) (parAt cs (findI cs id).toNat) (limAt cs (findI cs id).toNat)) fs d else noCfg
theorem drR_len (n : ByteArray) (cs : List Cls) (fs : List Flt) (d id : Int) (hz : n.size + cs.length + fs.length ≤ 1048576) : (drR n cs fs d id).cls.length ≤ 2000000 ∧ (drR n cs fs d id).flt.length ≤ 2000000 := by
  unfold drR
  split
  · have := dropL_len cs id
    exact ifR_len _ _ _ _ _ ⟨by rw [upLim_len]; omega, by omega⟩
  · simp [noCfg]
end Go.Proofs.YtidahgoihgodnaaDoor
