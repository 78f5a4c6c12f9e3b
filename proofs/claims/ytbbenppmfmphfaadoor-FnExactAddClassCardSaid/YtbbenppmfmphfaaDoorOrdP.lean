/- Configurations in order: the plain side. -/
import Derived.Test.YtbbenppmfmphfaaDoorSortT
import Derived.Test.YtbbenppmfmphfaaDoorDropP
namespace Go.Proofs.YtbbenppmfmphfaaDoor
open Go.RowKit
set_option maxRecDepth 20000
set_option linter.unusedSimpArgs false
set_option linter.unusedVariables false

/-- Sorted by keys, from the first to the last. -/
def Asc {α : Type} (key : α → Int) (l : List α) : Prop := SrtOn (kF key l) 0 l.length
theorem asc_iff {α : Type} (key : α → Int) (l : List α) : Asc key l ↔ l.Pairwise (fun a b => key a ≤ key b) := by
  rw [List.pairwise_iff_getElem]
  constructor
  · intro h i j hi hj hij
    have := h i j (Nat.zero_le _) hij hj
    rwa [kF_is key l i hi, kF_is key l j hj] at this
  · intro h i j _ hij hj
    rw [kF_is key l i (by omega), kF_is key l j hj]
    exact h i j (by omega) hj hij
/-- The elements in the order of their keys. -/
def srtL {α : Type} (key : α → Int) (l : List α) : List α := l.mergeSort (fun a b => decide (key a ≤ key b))
theorem srtL_perm {α : Type} (key : α → Int) (l : List α) : (srtL key l).Perm l := List.mergeSort_perm _ _
theorem srtL_asc {α : Type} (key : α → Int) (l : List α) : Asc key (srtL key l) := by
  rw [asc_iff]
  have := List.pairwise_mergeSort (le := fun a b : α => decide (key a ≤ key b)) (by intro a b c h1 h2; simp at *; omega) (by intro a b; simp; omega) l
  exact this.imp (by intro a b h; simpa using h)
/-- Where the keys increase strictly, no other order is sorted. -/
theorem asc_unique {α : Type} {key : α → Int} {l l' : List α} (hs : ∀ i j, i < j → j < l.length → kF key l i < kF key l j) (hs' : Asc key l') (hp : l.Perm l') : l = l' := by
  have h1 : l.Pairwise (fun a b => key a ≤ key b) := by
    rw [List.pairwise_iff_getElem]
    intro i j hi hj hij
    have := hs i j hij hj
    rw [kF_is key l i hi, kF_is key l j hj] at this
    omega
  refine List.Perm.eq_of_pairwise (le := fun a b => key a ≤ key b) (fun a b ha hb h2 h3 => ?_) h1 ((asc_iff key l').1 hs') hp
  have hb' : b ∈ l := hp.mem_iff.2 hb
  obtain ⟨i, hi, rfl⟩ := List.mem_iff_getElem.1 ha
  obtain ⟨j, hj, rfl⟩ := List.mem_iff_getElem.1 hb'
  rcases Nat.lt_trichotomy i j with h | h | h
  · have := hs i j h hj
    rw [kF_is key l i hi, kF_is key l j hj] at this
    omega
  · subst h; rfl
  · have := hs j i h hi
    rw [kF_is key l i hi, kF_is key l j hj] at this
    omega
theorem kF_id (cs : List Cls) (i : Nat) : kF (fun x : Cls => x.id) cs i = idAt cs i := by
  unfold kF idAt
  cases cs[i]? <;> rfl
theorem kF_prio (fs : List Flt) (i : Nat) : kF (fun x : Flt => x.prio) fs i = prioAt fs i := by
  unfold kF prioAt
  cases fs[i]? <;> rfl
theorem fil_next {cs : List Cls} {fs : List Flt} (h : filB cs fs = true) (i : Nat) (hi : i + 1 < fs.length) : prioAt fs i < prioAt fs (i + 1) := by
  simp only [filB, Bool.and_eq_true] at h
  have := noN_at h.1 hi
  simp only [filBad, Bool.or_eq_false_iff, Bool.and_eq_false_iff, decide_eq_false_iff_not, Nat.add_sub_cancel] at this
  omega
theorem fil_inc {cs : List Cls} {fs : List Flt} (h : filB cs fs = true) (i : Nat) : ∀ k, i + k + 1 < fs.length → prioAt fs i < prioAt fs (i + k + 1)
  | 0, hk => fil_next h i hk
  | k + 1, hk => Int.lt_trans (fil_inc h i k (by omega)) (fil_next h (i + k + 1) hk)
theorem good_cls_lt {n : ByteArray} {cs : List Cls} {fs : List Flt} {d : Int} (h : goodB n cs fs d = true) : ∀ i j, i < j → j < cs.length → kF (fun x : Cls => x.id) cs i < kF (fun x : Cls => x.id) cs j := fun i j h1 h2 => by
  rw [kF_id, kF_id]
  exact ids_lt (good_ids h) h1 h2
theorem good_flt_lt {n : ByteArray} {cs : List Cls} {fs : List Flt} {d : Int} (h : goodB n cs fs d = true) : ∀ i j, i < j → j < fs.length → kF (fun x : Flt => x.prio) fs i < kF (fun x : Flt => x.prio) fs j := fun i j h1 h2 => by
  rw [kF_prio, kF_prio]
  obtain ⟨k, rfl⟩ : ∃ k, j = i + k + 1 := ⟨j - i - 1, by omega⟩
  exact fil_inc (good_cond h 9 (by omega) (by omega)) i k h2
theorem lt_asc {α : Type} {key : α → Int} {l : List α} (h : ∀ i j, i < j → j < l.length → kF key l i < kF key l j) : Asc key l := fun i j _ h1 h2 => Int.le_of_lt (h i j h1 h2)
theorem good_same {n : ByteArray} {cs cs' : List Cls} {fs fs' : List Flt} {d : Int} (hc : Asc (fun x : Cls => x.id) cs') (hf : Asc (fun x : Flt => x.prio) fs') (pc : cs.Perm cs') (pf : fs.Perm fs') (h : goodB n cs fs d = true) : cs = cs' ∧ fs = fs' :=
  ⟨asc_unique (good_cls_lt h) hc pc, asc_unique (good_flt_lt h) hf pf⟩
/-- However it is sorted: the same, if it is valid. -/
theorem ifR_ord {n : ByteArray} {cs cs' : List Cls} {fs fs' : List Flt} {d : Int} (hc : Asc (fun x : Cls => x.id) cs) (hf : Asc (fun x : Flt => x.prio) fs) (hc' : Asc (fun x : Cls => x.id) cs') (hf' : Asc (fun x : Flt => x.prio) fs')
    (pc : cs.Perm cs') (pf : fs.Perm fs') : ifR n cs fs d = ifR n cs' fs' d := by
  cases h : goodB n cs fs d
  · cases h' : goodB n cs' fs' d
    · unfold ifR; rw [h, h']; rfl
    · obtain ⟨e1, e2⟩ := good_same hc hf pc.symm pf.symm h'
      rw [e1, e2]
  · obtain ⟨e1, e2⟩ := good_same hc' hf' pc pf h
    rw [e1, e2]
/-- A configuration in order, if it is valid. -/
def ordR (n : ByteArray) (cs : List Cls) (fs : List Flt) (d : Int) : CfgR := if decide (cs.length ≤ 24) && decide (fs.length ≤ 16) then ifR n (srtL (fun x : Cls => x.id) cs) (srtL (fun x : Flt => x.prio) fs) d else noCfg
theorem ordR_is {n : ByteArray} {cs cs' : List Cls} {fs fs' : List Flt} {d : Int} (h1 : cs.length ≤ 24) (h2 : fs.length ≤ 16) (hc : Asc (fun x : Cls => x.id) cs') (hf : Asc (fun x : Flt => x.prio) fs') (pc : cs'.Perm cs) (pf : fs'.Perm fs) : ordR n cs fs d = ifR n cs' fs' d := by
  unfold ordR
  rw [decide_eq_true h1, decide_eq_true h2]
  exact ifR_ord (srtL_asc _ _) (srtL_asc _ _) hc hf ((srtL_perm _ _).trans pc.symm) ((srtL_perm _ _).trans pf.symm)
theorem ordR_no {n : ByteArray} {cs : List Cls} {fs : List Flt} {d : Int} (h : ¬ cs.length ≤ 24 ∨ ¬ fs.length ≤ 16) : ordR n cs fs d = noCfg := by
  unfold ordR
  rcases h with h | h
  · rw [decide_eq_false h]; rfl
  · rw [decide_eq_false h, Bool.and_false]; rfl
theorem ordR_len (n : ByteArray) (cs : List Cls) (fs : List Flt) (d : Int) (hz : n.size + cs.length + fs.length ≤ 1048576) : (ordR n cs fs d).cls.length ≤ 2000000 ∧ (ordR n cs fs d).flt.length ≤ 2000000 := by
  unfold ordR
  split
  · exact ifR_len _ _ _ _ _ ⟨by rw [(srtL_perm _ _).length_eq]; omega, by rw [(srtL_perm _ _).length_eq]; omega⟩
  · simp [noCfg]
/-- The classes, the parent's Limit 0, and one more. -/
def addL (cs : List Cls) (x : Cls) : List Cls := (if decide (0 ≤ findI cs x.parent) then setLim cs (findI cs x.parent).toNat 0 else cs) ++ [x]
def addR (n : ByteArray) (cs : List Cls) (fs : List Flt) (d : Int) (x : Cls) : CfgR := if goodB n cs fs d then ifR n (srtL (fun x : Cls => x.id) (addL cs x)) (srtL (fun x : Flt => x.prio) fs) d else noCfg
theorem addL_len (cs : List Cls) (x : Cls) : (addL cs x).length = cs.length + 1 := by
  unfold addL
  split <;> simp [setLim_len]
theorem addR_is {n : ByteArray} {cs cs' : List Cls} {fs fs' : List Flt} {d : Int} {x : Cls} (h : goodB n cs fs d = true) (hc : Asc (fun x : Cls => x.id) cs') (hf : Asc (fun x : Flt => x.prio) fs') (pc : cs'.Perm (addL cs x)) (pf : fs'.Perm fs) : addR n cs fs d x = ifR n cs' fs' d := by
  unfold addR
  rw [h]
  exact ifR_ord (srtL_asc _ _) (srtL_asc _ _) hc hf ((srtL_perm _ _).trans pc.symm) ((srtL_perm _ _).trans pf.symm)
theorem addR_no {n : ByteArray} {cs : List Cls} {fs : List Flt} {d : Int} {x : Cls} (h : goodB n cs fs d = false) : addR n cs fs d x = noCfg := by unfold addR; rw [h]; rfl
theorem addR_full {n : ByteArray} {cs : List Cls} {fs : List Flt} {d : Int} {x : Cls} (h : cs.length = 24) : addR n cs fs d x = noCfg := by
  unfold addR
  split
  · unfold ifR
    rw [good_large _ _ _ _ (.inl (by rw [(srtL_perm _ _).length_eq, addL_len]; omega))]
    rfl
  · rfl
theorem addR_len (n : ByteArray) (cs : List Cls) (fs : List Flt) (d : Int) (x : Cls) (hz : n.size + cs.length + fs.length ≤ 1048576) : (addR n cs fs d x).cls.length ≤ 2000000 ∧ (addR n cs fs d x).flt.length ≤ 2000000 := by
  unfold addR
  split
  · exact ifR_len _ _ _ _ _ ⟨by rw [(srtL_perm _ _).length_eq, addL_len]; omega, by rw [(srtL_perm _ _).length_eq]; omega⟩
  · simp [noCfg]
/-- In a valid configuration a class that is no leaf has the Limit 0 already. -/
theorem good_lim {n : ByteArray} {cs : List Cls} {fs : List Flt} {d : Int} (h : goodB n cs fs d = true) {u : Nat} (hu : u < cs.length) (hl : leafB cs u = false) : setLim cs u 0 = cs := by
  have h8 := good_cond h 8 (by omega) (by omega)
  simp only [condB] at h8
  have h1 := noN_at h8 hu
  simp only [limBad, hl] at h1
  have h2 : limAt cs u = 0 := by simpa using h1
  rw [setLim_at cs u 0 hu]
  have h3 : cs[u].limit = 0 := by rw [← h2]; simp [limAt, hu]
  rw [show ({ cs[u] with limit := 0 } : Cls) = cs[u] by rw [← h3]]
  exact List.set_getElem_self hu
/-- One put behind all that are less: sorted as before, with one more. -/
theorem put_asc {α : Type} {key : α → Int} {l : List α} {x : α} {k : Nat} (hk : k ≤ l.length) (h1 : ∀ t, t < k → kF key l t < key x) (h2 : k < l.length → key x ≤ kF key l k) (hs : Asc key l) : Asc key (l.take k ++ x :: l.drop k) := by
  rw [asc_iff] at hs ⊢
  have hd : ∀ y ∈ l.drop k, key x ≤ key y := fun y hy => by
    obtain ⟨i, hi, rfl⟩ := List.mem_iff_getElem.1 hy
    rw [List.length_drop] at hi
    rw [List.getElem_drop]
    have h3 := h2 (by omega)
    rw [kF_is key l k (by omega)] at h3
    rcases Nat.eq_zero_or_pos i with h | h
    · subst h; exact h3
    · exact Int.le_trans h3 ((List.pairwise_iff_getElem.1 hs) k (k + i) (by omega) (by omega) (by omega))
  have ht : ∀ y ∈ l.take k, key y ≤ key x := fun y hy => by
    obtain ⟨i, hi, rfl⟩ := List.mem_iff_getElem.1 hy
    rw [List.length_take] at hi
    rw [List.getElem_take]
    have h3 := h1 i (by omega)
    rw [kF_is key l i (by omega)] at h3
    omega
  refine List.pairwise_append.2 ⟨hs.sublist (List.take_sublist _ _), List.pairwise_cons.2 ⟨hd, hs.sublist (List.drop_sublist _ _)⟩, fun a ha b hb => ?_⟩
  rcases List.mem_cons.1 hb with rfl | hb
  · exact ht a ha
  · exact Int.le_trans (ht a ha) (hd b hb)
theorem put_perm {α : Type} (l : List α) (x : α) (k : Nat) : (l.take k ++ x :: l.drop k).Perm (x :: l) := by
  refine List.perm_middle.trans ?_
  rw [List.take_append_drop]
end Go.Proofs.YtbbenppmfmphfaaDoor
