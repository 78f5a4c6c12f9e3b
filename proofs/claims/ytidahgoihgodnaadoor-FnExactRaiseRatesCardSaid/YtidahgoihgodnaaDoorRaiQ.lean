/- The lists on the way of RaiseRates: the plain side. -/
import Derived.Test.YtidahgoihgodnaaDoorRaiC
namespace Go.Proofs.YtidahgoihgodnaaDoor
open Go.RowKit
set_option maxRecDepth 20000
set_option linter.unusedSimpArgs false
set_option linter.unusedVariables false

/-! ### the program's list -/
def pkP (cs : List Cls) (m k : Nat) : Nat → Bool := fun j => decide (8 - m < depU cs j) || (decide (depU cs j = 8 - m) && decide (j < k))
def RaiS (cs : List Cls) (m k : Nat) (L : List Cls) : Prop := L = mkL cs (rowF cs (8 - m) (runF cs 8 (rateAt cs) m) k) (pkP cs m k)
theorem raiS_ST {cs L : List Cls} {m k : Nat} (h : RaiS cs m k L) : ST L cs := by rw [h]; exact mkL_ST _ _ _
theorem raiS_start {cs : List Cls} (ht : TreeB cs = true) : RaiS cs 0 0 cs := by
  refine (mkL_id cs _ fun i hi => ?_).symm
  have := tree_dep ht i hi
  simp [pkP]
  omega
theorem raiS_next {cs L : List Cls} {m : Nat} (h : RaiS cs m cs.length L) (hm : m < 8) : RaiS cs (m + 1) 0 L := by
  rw [h]
  refine mkL_congr (fun i hi => rfl) fun i hi => ?_
  rw [Bool.eq_iff_iff]; simp only [pkP, Bool.or_eq_true, Bool.and_eq_true, decide_eq_true_eq]
  omega
theorem raiS_skip {cs L : List Cls} {m k : Nat} (h : RaiS cs m k L) (hd : depU cs k ≠ 8 - m) : RaiS cs m (k + 1) L := by
  rw [h]
  refine mkL_congr (fun i hi => by rw [rowF, if_neg hd]) fun i hi => ?_
  rw [Bool.eq_iff_iff]; simp only [pkP, Bool.or_eq_true, Bool.and_eq_true, decide_eq_true_eq]
  by_cases e : i = k
  · subst e; omega
  · omega
theorem raiS_done {cs L : List Cls} (ht : TreeB cs = true) (h : RaiS cs 8 0 L) : L = mkL cs (runF cs 8 (rateAt cs) 8) (fun _ => true) := by
  rw [h]
  refine mkL_congr (fun i hi => rfl) fun i hi => ?_
  have := tree_dep ht i hi
  simp [pkP]
  omega
theorem runF_good {cs : List Cls} (ht : TreeB cs = true) {M : Nat} {f : Nat → Int} (hf : FGood cs f) : ∀ m, FGood cs (runF cs M f m)
  | 0 => hf
  | m + 1 => rowF_good ht (runF_good ht hf m) _ (Nat.le_refl _)
theorem row_good {cs : List Cls} (ht : TreeB cs = true) (hc : cntB cs = true) {M m k : Nat} (hk : k ≤ cs.length) : FGood cs (rowF cs (M - m) (runF cs M (rateAt cs) m) k) :=
  rowF_good ht (runF_good ht (fgood_start (cnt_ok hc)) m) k hk
theorem raiS_at {cs L : List Cls} {m k : Nat} (ht : TreeB cs = true) (hc : cntB cs = true) (h : RaiS cs m k L) (hk : k < cs.length) (hd : depU cs k = 8 - m) :
    SumOk L k ∧ ∃ x : Cls, L[k]? = some x ∧ RaiS cs m (k + 1) (L.set k { x with rate := max x.rate (kidR L k), ceil := max x.ceil (max x.rate (kidR L k)) }) := by
  have hg := row_good ht hc (M := 8) (m := m) (k := k) (by omega)
  have hp : pkP cs m k k = false := by simp [pkP]; omega
  refine ⟨?_, { cs[k] with rate := rowF cs (8 - m) (runF cs 8 (rateAt cs) m) k k }, ?_, ?_⟩
  · rw [h]; exact sumOk_mk ht hg _ hk
  · rw [h, mkL_at hk, hp]; rfl
  · have e : kidR L k = chS cs (rowF cs (8 - m) (runF cs 8 (rateAt cs) m) k) k := by rw [h, mkL_kids]
    simp only [e]
    have hs := mkL_set (cs := cs) (f := rowF cs (8 - m) (runF cs 8 (rateAt cs) m) k) (P := pkP cs m k) (P' := pkP cs m (k + 1)) hk (max (rowF cs (8 - m) (runF cs 8 (rateAt cs) m) k k) (chS cs (rowF cs (8 - m) (runF cs 8 (rateAt cs) m) k) k)) (max cs[k].ceil (max (rowF cs (8 - m) (runF cs 8 (rateAt cs) m) k k) (chS cs (rowF cs (8 - m) (runF cs 8 (rateAt cs) m) k) k))) (fun j hj => by
      rw [Bool.eq_iff_iff]; simp only [pkP, Bool.or_eq_true, Bool.and_eq_true, decide_eq_true_eq]
      omega) (by rw [if_pos (by simp [pkP]; omega)])
    have hL : L = mkL cs (rowF cs (8 - m) (runF cs 8 (rateAt cs) m) k) (pkP cs m k) := h
    unfold RaiS
    rw [rowF, if_pos hd]
    unfold prc
    rw [← hs, ← hL]
theorem rrR_no {n : ByteArray} {cs : List Cls} {fs : List Flt} {d : Int} (h : TreeB cs = false ∨ ¬ fs.length ≤ 16 ∨ cntB cs = false) : rrR n cs fs d = noCfg := by
  unfold rrR
  rcases h with h | h | h <;> simp [h]
theorem rrR_yes {n : ByteArray} {cs : List Cls} {fs : List Flt} {d : Int} (h1 : TreeB cs = true) (h2 : fs.length ≤ 16) (h3 : cntB cs = true) {L : List Cls} (h : RaiS cs 8 0 L) : rrR n cs fs d = ifR n L fs d := by
  unfold rrR
  rw [h1, h3, raiS_done h1 h]
  simp [h2]
theorem tree_no24 {cs : List Cls} (h : ¬ cs.length ≤ 24) : TreeB cs = false := by
  cases ht : TreeB cs
  · rfl
  · exact absurd (tree_len ht).2 h
theorem tree_conds (n : ByteArray) (cs : List Cls) (fs : List Flt) (d : Int) : TreeB cs = (condB n cs fs d 2 && condB n cs fs d 3 && condB n cs fs d 4) := by
  simp only [condB]; rfl
/-! ### the reference's list -/
def SpeS (cs : List Cls) (m k : Nat) (L : List Cls) : Prop := L = mkL cs (rowF cs (cs.length - m) (runF cs cs.length (rateAt cs) m) k) (fun _ => false)
theorem speS_ST {cs L : List Cls} {m k : Nat} (h : SpeS cs m k L) : ST L cs := by rw [h]; exact mkL_ST _ _ _
theorem speS_start (cs : List Cls) : SpeS cs 0 0 cs := (mkL_id cs _ fun _ _ => rfl).symm
theorem speS_next {cs L : List Cls} {m : Nat} (h : SpeS cs m cs.length L) : SpeS cs (m + 1) 0 L := by
  rw [h]
  exact mkL_congr (fun i hi => rfl) fun i hi => rfl
theorem speS_skip {cs L : List Cls} {m k : Nat} (h : SpeS cs m k L) (hd : depU cs k ≠ cs.length - m) : SpeS cs m (k + 1) L := by
  rw [h]
  exact mkL_congr (fun i hi => by rw [rowF, if_neg hd]) fun i hi => rfl
theorem speS_at {cs L : List Cls} {m k : Nat} (ht : TreeB cs = true) (hc : cntB cs = true) (h : SpeS cs m k L) (hk : k < cs.length) (hd : depU cs k = cs.length - m) :
    SumOk L k ∧ ∃ x : Cls, L[k]? = some x ∧ x.rate = rateAt L k ∧ (¬ x.rate - kidR L k < 0 → SpeS cs m (k + 1) L) ∧ (x.rate - kidR L k < 0 → SpeS cs m (k + 1) (L.set k { x with rate := kidR L k })) := by
  have hg := row_good ht hc (M := cs.length) (m := m) (k := k) (by omega)
  have e : kidR L k = chS cs (rowF cs (cs.length - m) (runF cs cs.length (rateAt cs) m) k) k := by rw [h, mkL_kids]
  have hx : L[k]? = some { cs[k] with rate := rowF cs (cs.length - m) (runF cs cs.length (rateAt cs) m) k k } := by rw [h, mkL_at hk]; rfl
  refine ⟨by rw [h]; exact sumOk_mk ht hg _ hk, _, hx, ?_, fun hn => ?_, fun hn => ?_⟩
  · rw [h, mkL_rate hk]
  · simp only [e] at hn
    rw [h]
    refine mkL_congr (fun i hi => ?_) fun i hi => rfl
    rw [rowF, if_pos hd]
    unfold prc fset
    split
    · rename_i e2; subst e2; omega
    · rfl
  · simp only [e] at hn ⊢
    have hs := mkL_set (cs := cs) (f := rowF cs (cs.length - m) (runF cs cs.length (rateAt cs) m) k) (P := fun _ => false) (P' := fun _ => false) hk (chS cs (rowF cs (cs.length - m) (runF cs cs.length (rateAt cs) m) k) k) cs[k].ceil (fun j hj => rfl) rfl
    have hL : L = mkL cs (rowF cs (cs.length - m) (runF cs cs.length (rateAt cs) m) k) (fun _ => false) := h
    unfold SpeS
    rw [rowF, if_pos hd]
    unfold prc
    rw [show max (rowF cs (cs.length - m) (runF cs cs.length (rateAt cs) m) k k) (chS cs (rowF cs (cs.length - m) (runF cs cs.length (rateAt cs) m) k) k) = chS cs (rowF cs (cs.length - m) (runF cs cs.length (rateAt cs) m) k) k by omega, ← hs, ← hL]
/-- The ceilings of the first k raised. -/
def SpeC (cs : List Cls) (k : Nat) (L : List Cls) : Prop := L = mkL cs (runF cs cs.length (rateAt cs) cs.length) (fun j => decide (j < k))
theorem speC_ST {cs L : List Cls} {k : Nat} (h : SpeC cs k L) : ST L cs := by rw [h]; exact mkL_ST _ _ _
theorem speC_start {cs L : List Cls} (h : SpeS cs cs.length 0 L) : SpeC cs 0 L := by
  rw [h]
  exact mkL_congr (fun i hi => rfl) fun i hi => rfl
theorem speC_at {cs L : List Cls} {k : Nat} (h : SpeC cs k L) (hk : k < cs.length) : ∃ x : Cls, L[k]? = some x ∧ SpeC cs (k + 1) (L.set k { x with ceil := max x.ceil x.rate }) := by
  have hx : L[k]? = some { cs[k] with rate := runF cs cs.length (rateAt cs) cs.length k } := by rw [h, mkL_at hk]; simp
  refine ⟨_, hx, ?_⟩
  have hs := mkL_set (cs := cs) (f := runF cs cs.length (rateAt cs) cs.length) (P := fun j => decide (j < k)) (P' := fun j => decide (j < k + 1)) hk (runF cs cs.length (rateAt cs) cs.length k) (max cs[k].ceil (runF cs cs.length (rateAt cs) cs.length k)) (fun j hj => by
    simp only [decide_eq_decide]; omega) (by rw [if_pos (by simp)])
  have hL : L = mkL cs (runF cs cs.length (rateAt cs) cs.length) (fun j => decide (j < k)) := h
  unfold SpeC
  have hf : fset (runF cs cs.length (rateAt cs) cs.length) k (runF cs cs.length (rateAt cs) cs.length k) = runF cs cs.length (rateAt cs) cs.length := funext fun j => by
    unfold fset
    split
    · rename_i e; rw [e]
    · rfl
  rw [hf] at hs
  rw [← hs, ← hL]
theorem rrR_speC {n : ByteArray} {cs : List Cls} {fs : List Flt} {d : Int} (h1 : TreeB cs = true) (h2 : fs.length ≤ 16) (h3 : cntB cs = true) {L : List Cls} (h : SpeC cs cs.length L) : rrR n cs fs d = ifR n L fs d := by
  unfold rrR
  rw [h1, h3, h, runF_same h1]
  simp only [h2, decide_true, Bool.and_self, if_true]
  congr 1
  exact mkL_congr (fun _ _ => rfl) fun i hi => by simp [hi]
end Go.Proofs.YtidahgoihgodnaaDoor
