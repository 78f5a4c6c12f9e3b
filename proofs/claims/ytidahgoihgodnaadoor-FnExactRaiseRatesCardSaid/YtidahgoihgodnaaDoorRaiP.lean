/- Rates raised to the sums of those of children: the plain side. -/
import Derived.Test.YtidahgoihgodnaaDoorDropP
namespace Go.Proofs.YtidahgoihgodnaaDoor
open Go.RowKit
set_option maxRecDepth 20000
set_option linter.unusedSimpArgs false
set_option linter.unusedVariables false

/-! ### the same Ids and parents -/
def ST (L cs : List Cls) : Prop := ∀ i : Nat, (L[i]?).map (fun x => (x.id, x.parent)) = (cs[i]?).map (fun x => (x.id, x.parent))
theorem ST.refl (cs : List Cls) : ST cs cs := fun _ => rfl
theorem ST.trans {a b c : List Cls} (h : ST a b) (k : ST b c) : ST a c := fun i => (h i).trans (k i)
theorem ST.len {L cs : List Cls} (h : ST L cs) : L.length = cs.length := by
  rcases Nat.lt_trichotomy L.length cs.length with h1 | h1 | h1
  · have := h L.length
    rw [List.getElem?_eq_none (Nat.le_refl _), List.getElem?_eq_getElem h1] at this
    cases this
  · exact h1
  · have := h cs.length
    rw [List.getElem?_eq_none (l := cs) (Nat.le_refl _), List.getElem?_eq_getElem h1] at this
    cases this
theorem ST.at {L cs : List Cls} (h : ST L cs) (k : Nat) (p : Int → Int → Bool) : clsAt L k (fun x => p x.id x.parent) = clsAt cs k (fun x => p x.id x.parent) := by
  have := h k
  unfold clsAt
  cases h1 : L[k]? <;> cases h2 : cs[k]? <;> rw [h1, h2] at this <;> simp at this
  all_goals first | rfl | (show p _ _ = p _ _; rw [this.1, this.2])
theorem ST.find {L cs : List Cls} (h : ST L cs) (id : Int) : findI L id = findI cs id := by
  unfold findI idxC
  rw [h.len]
  exact congrArg (fun p => fndN p 0 cs.length) (funext fun k => h.at k (fun a _ => a == id))
theorem ST.idAt {L cs : List Cls} (h : ST L cs) (i : Nat) : idAt L i = idAt cs i := by
  have := h i
  unfold Go.Proofs.YtidahgoihgodnaaDoor.idAt
  cases h1 : L[i]? <;> cases h2 : cs[i]? <;> rw [h1, h2] at this <;> simp at this
  all_goals first | rfl | exact this.1
theorem ST.parAt {L cs : List Cls} (h : ST L cs) (i : Nat) : parAt L i = parAt cs i := by
  have := h i
  unfold Go.Proofs.YtidahgoihgodnaaDoor.parAt
  cases h1 : L[i]? <;> cases h2 : cs[i]? <;> rw [h1, h2] at this <;> simp at this
  all_goals first | rfl | exact this.2
theorem ST.upF {L cs : List Cls} (h : ST L cs) : upF L = upF cs := funext fun k => by
  unfold Go.Proofs.YtidahgoihgodnaaDoor.upF
  rw [h.parAt, h.find]
theorem ST.kidL {L cs : List Cls} (h : ST L cs) (i : Nat) : kidL L i = kidL cs i := by
  unfold Go.Proofs.YtidahgoihgodnaaDoor.kidL
  rw [h.len]
  exact pick_congr _ _ _ fun k _ => by
    unfold kidP
    rw [h.idAt]
    exact h.at k (fun _ b => b == Go.Proofs.YtidahgoihgodnaaDoor.idAt cs i)
/-- The conditions 2 to 4. -/
def TreeB (cs : List Cls) : Bool := idsB cs && parB cs && wayB cs
theorem ST.tree {L cs : List Cls} (h : ST L cs) : TreeB L = TreeB cs := by
  have e1 : idsB L = idsB cs := by
    unfold idsB
    rw [h.len]
    congr 1
    exact noN_congr fun k _ => by unfold idBad; rw [h.idAt, h.idAt]
  have e2 : parB L = parB cs := by
    unfold parB topsN
    rw [h.len]
    congr 1
    · rw [pick_congr (topP L) (topP cs) cs.length fun k _ => by unfold topP; rw [h.parAt]]
    · exact noN_congr fun k _ => by
        unfold bpP
        rw [show (fun x : Cls => x.parent != 0 && decide (findI L x.parent < 0)) = (fun x : Cls => x.parent != 0 && decide (findI cs x.parent < 0)) from funext fun x => by rw [h.find]]
        exact h.at k (fun _ b => b != 0 && decide (findI cs b < 0))
  have e3 : wayB L = wayB cs := by
    unfold wayB
    rw [h.len]
    exact noN_congr fun k _ => by unfold wayBad deepP; rw [h.upF, h.len, h.parAt]
  unfold TreeB
  rw [e1, e2, e3]
theorem good_tree {n : ByteArray} {cs : List Cls} {fs : List Flt} {d : Int} (h : goodB n cs fs d = true) : TreeB cs = true := by
  have h2 := good_cond h 2 (by omega) (by omega)
  have h3 := good_cond h 3 (by omega) (by omega)
  have h4 := good_cond h 4 (by omega) (by omega)
  simp only [condB] at h2 h3 h4
  simp [TreeB, h2, h3, h4]
/-- A configuration with another tree than a valid one is not valid. -/
theorem ST.no {n : ByteArray} {L cs : List Cls} {fs : List Flt} {d : Int} (h : ST L cs) (ht : TreeB cs = false ∨ ¬ cs.length ≤ 24 ∨ ¬ fs.length ≤ 16) : ifR n L fs d = noCfg := by
  unfold ifR
  cases hg : goodB n L fs d
  · rfl
  · exfalso
    have h1 := good_tree hg
    have h2 := good_len hg
    rw [h.tree] at h1
    rw [h.len] at h2
    rcases ht with ht | ht | ht
    · rw [h1] at ht; cases ht
    · omega
    · omega
/-! ### ways up in a tree -/
section
variable {cs : List Cls} (ht : TreeB cs = true)
include ht
theorem tree_ids : idsB cs = true := by simp only [TreeB, Bool.and_eq_true] at ht; exact ht.1.1
theorem tree_par : parB cs = true := by simp only [TreeB, Bool.and_eq_true] at ht; exact ht.1.2
theorem tree_way : wayB cs = true := by simp only [TreeB, Bool.and_eq_true] at ht; exact ht.2
theorem tree_len : 1 ≤ cs.length ∧ cs.length ≤ 24 := by
  have := tree_ids ht
  simp only [idsB, Bool.and_eq_true, inR_iff] at this
  omega
theorem tree_deep (k : Nat) (hk : k < cs.length) : deepP cs k = false := by
  have := noN_at (tree_way ht) hk
  simp only [wayBad, Bool.or_eq_false_iff] at this
  exact this.1
theorem tree_zero : findI cs 0 = -1 := by
  have h2 := tree_ids ht
  simp only [idsB, Bool.and_eq_true] at h2
  rcases findI_bd cs 0 with h1 | ⟨u, h1, hu⟩
  · exact h1
  · have h4 := noN_at h2.1 hu
    simp only [idBad, Bool.or_eq_false_iff, findI_at h1 hu] at h4
    have h6 : (!inR 0 1 999) = false := h4.1
    cases h6
theorem tree_next (u : Nat) (hu : u < cs.length) : (parAt cs u = 0 → findI cs (parAt cs u) = -1) ∧ (parAt cs u ≠ 0 → 0 ≤ findI cs (parAt cs u)) := by
  refine ⟨fun h0 => by rw [h0]; exact tree_zero ht, fun h0 => ?_⟩
  have h3 := tree_par ht
  simp only [parB, Bool.and_eq_true] at h3
  have h4 := noN_at h3.2 hu
  rw [show bpP cs u = (parAt cs u != 0 && decide (findI cs (parAt cs u) < 0)) by rw [parAt_is cs u hu]; exact clsAt_is cs u _ hu, show (parAt cs u != 0) = true by simp [h0]] at h4
  have : ¬ findI cs (parAt cs u) < 0 := by simpa using h4
  omega
end
/-- How many classes the way up has. -/
def depU (cs : List Cls) (i : Nat) : Nat := upN (upF cs) i
theorem tree_dep {cs : List Cls} (ht : TreeB cs = true) (i : Nat) (hi : i < cs.length) : 0 < depU cs i ∧ depU cs i ≤ 8 ∧ depU cs i ≤ cs.length ∧ wayA (upF cs) i cs.length = (depU cs i : Int) := by
  have hd := tree_deep ht i hi
  obtain ⟨a, b, c, d⟩ := upN_spec (upF cs) i
  have h8 := (up_way hi).2 hd
  have hw := up_is hi hd
  have hn := (wayN_spec (upF_bd cs) hi).1
  refine ⟨b, h8, by unfold depU; rw [hw]; exact hn, ?_⟩
  have he : endsU (upF cs) i cs.length = true := by
    simp only [deepP, Bool.or_eq_false_iff, Bool.not_eq_false'] at hd
    exact hd.1
  unfold wayA depU
  rw [he, hw]
  rfl
theorem itU_par (f : Nat → Int) (k i : Nat) (h : f k = i) : ∀ j, itU f k (j + 1) = itU f i j
  | 0 => by rw [itU_step (by simp [itU])]; simpa [itU] using h
  | j + 1 => by
    have := itU_par f k i h j
    have e1 : itU f k (j + 1 + 1) = if itU f k (j + 1) < 0 then -1 else f (itU f k (j + 1)).toNat := rfl
    rw [e1, this]
    rfl
/-- A child's way is one longer. -/
theorem kid_dep {cs : List Cls} (ht : TreeB cs = true) {i k : Nat} (hi : i < cs.length) (hk : k < cs.length) (h : parAt cs k = idAt cs i) : depU cs k = depU cs i + 1 := by
  have hu : upF cs k = i := by
    unfold upF
    rw [h]
    rcases findI_bd cs (idAt cs i) with h1 | ⟨u, h1, hu⟩
    · exfalso
      have hs := (fndN_spec (fun k => clsAt cs k fun x => x.id == idAt cs i) cs.length 0).1 h1 i (by omega) (by omega)
      rw [clsAt_is cs i _ hi, idAt_is cs i hi] at hs
      simp at hs
    · rw [h1]
      have h2 := findI_at h1 hu
      rcases Nat.lt_trichotomy u i with h3 | h3 | h3
      · have := ids_lt (tree_ids ht) h3 hi
        omega
      · rw [h3]
      · have := ids_lt (tree_ids ht) h3 hu
        omega
  obtain ⟨a, b, c, d⟩ := upN_spec (upF cs) i
  have h8 := (tree_dep ht i hi).2.1
  have hk8 := (tree_dep ht k hk).2.1
  unfold depU at *
  refine upN_is (by omega) (fun j hj => ?_) (.inr ?_)
  · rcases Nat.eq_zero_or_pos j with e | e
    · subst e; simp [itU]
    · obtain ⟨j', rfl⟩ : ∃ j', j = j' + 1 := ⟨j - 1, by omega⟩
      rw [itU_par _ k i hu]
      exact c j' (by omega)
  · rw [itU_par _ k i hu]
    exact d (by omega)
theorem kid_at {cs : List Cls} {i k : Nat} (h : k < (kidL cs i).length) : ∃ j : Nat, (kidL cs i).getD k 0 = j ∧ j < cs.length ∧ parAt cs j = idAt cs i := by
  obtain ⟨j, a, b, c⟩ := pick_mem (kidP cs i) _ cs.length (List.getElem_mem h)
  refine ⟨j, ?_, b, ?_⟩
  · rw [List.getD_eq_getElem?_getD, List.getElem?_eq_getElem h]
    exact a
  · unfold kidP at c
    rw [clsAt_is cs j _ b] at c
    rw [parAt_is cs j b]
    simpa using c

/-! ### the lists on the way -/
def fset (f : Nat → Int) (i : Nat) (r : Int) : Nat → Int := fun j => if j = i then r else f j
/-- The classes with the rates f, and the ceils of those of P at least as high. -/
def mkL (cs : List Cls) (f : Nat → Int) (P : Nat → Bool) : List Cls := cs.mapIdx fun i x => { x with rate := f i, ceil := if P i then max x.ceil (f i) else x.ceil }
theorem mkL_len (cs : List Cls) (f : Nat → Int) (P : Nat → Bool) : (mkL cs f P).length = cs.length := by simp [mkL]
theorem mkL_get (cs : List Cls) (f : Nat → Int) (P : Nat → Bool) (i : Nat) : (mkL cs f P)[i]? = (cs[i]?).map fun x => { x with rate := f i, ceil := if P i then max x.ceil (f i) else x.ceil } := by
  simp [mkL]
theorem mkL_ST (cs : List Cls) (f : Nat → Int) (P : Nat → Bool) : ST (mkL cs f P) cs := fun i => by
  rw [mkL_get]
  cases cs[i]? <;> rfl
theorem mkL_congr {cs : List Cls} {f f' : Nat → Int} {P P' : Nat → Bool} (hf : ∀ i, i < cs.length → f i = f' i) (hP : ∀ i, i < cs.length → P i = P' i) : mkL cs f P = mkL cs f' P' := by
  refine List.ext_getElem? fun i => ?_
  rw [mkL_get, mkL_get]
  by_cases hi : i < cs.length
  · rw [hf i hi, hP i hi]
  · rw [List.getElem?_eq_none (by omega)]; rfl
theorem mkL_id (cs : List Cls) (P : Nat → Bool) (hP : ∀ i, i < cs.length → P i = false) : mkL cs (rateAt cs) P = cs := by
  refine List.ext_getElem? fun i => ?_
  rw [mkL_get]
  by_cases hi : i < cs.length
  · rw [List.getElem?_eq_getElem hi, hP i hi, rateAt_is cs i hi]; rfl
  · rw [List.getElem?_eq_none (by omega)]; rfl
theorem mkL_set {cs : List Cls} {f : Nat → Int} {P P' : Nat → Bool} {i : Nat} (hi : i < cs.length) (r c : Int) (hP : ∀ j, j ≠ i → P' j = P j) (hc : c = if P' i then max cs[i].ceil r else cs[i].ceil) :
    (mkL cs f P).set i { cs[i] with rate := r, ceil := c } = mkL cs (fset f i r) P' := by
  refine List.ext_getElem? fun j => ?_
  rw [List.getElem?_set, mkL_get, mkL_get, mkL_len]
  by_cases e : i = j
  · subst e
    rw [if_pos rfl, if_pos hi, List.getElem?_eq_getElem hi, hc]
    simp [fset]
  · rw [if_neg e, hP j (fun h => e h.symm), show fset f i r j = f j by unfold fset; rw [if_neg (fun h => e h.symm)]]
theorem mkL_at {cs : List Cls} {f : Nat → Int} {P : Nat → Bool} {i : Nat} (hi : i < cs.length) : (mkL cs f P)[i]? = some { cs[i] with rate := f i, ceil := if P i then max cs[i].ceil (f i) else cs[i].ceil } := by
  rw [mkL_get, List.getElem?_eq_getElem hi]; rfl
theorem mkL_rate {cs : List Cls} {f : Nat → Int} {P : Nat → Bool} {i : Nat} (hi : i < cs.length) : rateAt (mkL cs f P) i = f i := by
  unfold rateAt
  rw [mkL_at hi]
/-- The sum of the rates of the children. -/
def sumF (f : Nat → Int) (l : List Int) : Nat → Int
  | 0 => 0
  | k + 1 => sumF f l k + f (l.getD k 0).toNat
def chS (cs : List Cls) (f : Nat → Int) (i : Nat) : Int := sumF f (kidL cs i) (kidL cs i).length
theorem mkL_kids {cs : List Cls} {f : Nat → Int} {P : Nat → Bool} (i : Nat) : kidR (mkL cs f P) i = chS cs f i := by
  unfold kidR chS
  rw [(mkL_ST cs f P).kidL]
  have : ∀ k, k ≤ (kidL cs i).length → sumK (mkL cs f P) (kidL cs i) k = sumF f (kidL cs i) k := by
    intro k
    induction k with
    | zero => intro _; rfl
    | succ k ih =>
      intro hk
      obtain ⟨j, h1, h2, _⟩ := kid_at (show k < (kidL cs i).length by omega)
      rw [sumK, sumF, ih (by omega), h1, Int.toNat_natCast, mkL_rate h2]
  exact this _ (Nat.le_refl _)
/-- One class raised. -/
def prc (cs : List Cls) (f : Nat → Int) (i : Nat) : Nat → Int := fset f i (max (f i) (chS cs f i))
def rowF (cs : List Cls) (dep : Nat) (f : Nat → Int) : Nat → (Nat → Int)
  | 0 => f
  | k + 1 => if depU cs k = dep then prc cs (rowF cs dep f k) k else rowF cs dep f k
/-- t depths raised, from M on downwards. -/
def runF (cs : List Cls) (M : Nat) (f : Nat → Int) : Nat → (Nat → Int)
  | 0 => f
  | t + 1 => rowF cs (M - t) (runF cs M f t) cs.length
theorem rowF_no {cs : List Cls} {dep : Nat} {f : Nat → Int} : ∀ k, (∀ i, i < k → depU cs i ≠ dep) → rowF cs dep f k = f
  | 0, _ => rfl
  | k + 1, h => by
    rw [rowF, if_neg (h k (by omega)), rowF_no k (fun i hi => h i (by omega))]
theorem runF_no {cs : List Cls} {M B : Nat} {f : Nat → Int} (hB : ∀ i, i < cs.length → depU cs i ≤ B) : ∀ t, t + B ≤ M → runF cs M f t = f
  | 0, _ => rfl
  | t + 1, h => by
    rw [runF, runF_no hB t (by omega)]
    exact rowF_no _ fun i hi => by have := hB i hi; omega
theorem runF_trim {cs : List Cls} {M B : Nat} {f : Nat → Int} (hB : ∀ i, i < cs.length → depU cs i ≤ B) (hM : B ≤ M) : ∀ s, s ≤ B → runF cs M f (M - B + s) = runF cs B f s
  | 0, _ => runF_no hB (M - B) (by omega)
  | s + 1, h => by
    rw [← Nat.add_assoc, runF, runF, runF_trim hB hM s (by omega), show M - (M - B + s) = B - s by omega]
theorem runF_same {cs : List Cls} (ht : TreeB cs = true) (f : Nat → Int) : runF cs cs.length f cs.length = runF cs 8 f 8 := by
  have hB : ∀ i, i < cs.length → depU cs i ≤ min 8 cs.length := fun i hi => by have := tree_dep ht i hi; omega
  have h1 := runF_trim (M := cs.length) (f := f) hB (by omega) (min 8 cs.length) (Nat.le_refl _)
  have h2 := runF_trim (M := 8) (f := f) hB (by omega) (min 8 cs.length) (Nat.le_refl _)
  rw [show cs.length - min 8 cs.length + min 8 cs.length = cs.length by omega] at h1
  rw [show 8 - min 8 cs.length + min 8 cs.length = 8 by omega] at h2
  rw [h1, h2]
/-! ### bounds -/
def pw : Nat → Int
  | 0 => 1000000000
  | e + 1 => 24 * pw e
theorem pw_pos : ∀ e, 1000000000 ≤ pw e
  | 0 => Int.le_refl _
  | e + 1 => by have := pw_pos e; unfold pw; omega
theorem pw_7 (e : Nat) (h : e ≤ 7) : pw e ≤ 4586471424000000000 := by
  have : e = 0 ∨ e = 1 ∨ e = 2 ∨ e = 3 ∨ e = 4 ∨ e = 5 ∨ e = 6 ∨ e = 7 := by omega
  rcases this with rfl | rfl | rfl | rfl | rfl | rfl | rfl | rfl <;> decide
def FGood (cs : List Cls) (f : Nat → Int) : Prop := ∀ i, i < cs.length → 0 ≤ f i ∧ f i ≤ pw (8 - depU cs i)
theorem fgood_start {cs : List Cls} (h : RatesOk cs) : FGood cs (rateAt cs) := fun i _ => ⟨(h i).1, Int.le_trans (h i).2 (pw_pos _)⟩
theorem sumF_bd {f : Nat → Int} {l : List Int} {b : Int} (hb : ∀ k, k < l.length → 0 ≤ f (l.getD k 0).toNat ∧ f (l.getD k 0).toNat ≤ b) : ∀ k, k ≤ l.length → 0 ≤ sumF f l k ∧ sumF f l k ≤ b * k
  | 0, _ => by simp [sumF]
  | k + 1, hk => by
    have h1 := sumF_bd hb k (by omega)
    have h2 := hb k (by omega)
    have e : b * ((k + 1 : Nat) : Int) = b * k + b := by rw [Int.natCast_succ, Int.mul_add, Int.mul_one]
    unfold sumF
    omega
theorem chS_bd {cs : List Cls} (ht : TreeB cs = true) {f : Nat → Int} (hf : FGood cs f) {i : Nat} (hi : i < cs.length) : 0 ≤ chS cs f i ∧ chS cs f i ≤ pw (8 - depU cs i) := by
  have hl := tree_len ht
  have hk := kidL_len cs i
  unfold chS
  by_cases h8 : depU cs i = 8
  · have h0 : (kidL cs i).length = 0 := by
      rcases Nat.eq_zero_or_pos (kidL cs i).length with e | e
      · exact e
      · obtain ⟨j, _, hj, hp⟩ := kid_at e
        have h1 := kid_dep ht hi hj hp
        have h2 := tree_dep ht j hj
        omega
    rw [h0]
    have := pw_pos (8 - depU cs i)
    simp [sumF]
    omega
  · have hd := tree_dep ht i hi
    have hs := sumF_bd (f := f) (l := kidL cs i) (b := pw (8 - depU cs i - 1)) (fun k hk => by
      obtain ⟨j, h1, hj, hp⟩ := kid_at hk
      rw [h1, Int.toNat_natCast]
      have h2 := kid_dep ht hi hj hp
      have h3 := hf j hj
      rw [h2, show 8 - (depU cs i + 1) = 8 - depU cs i - 1 by omega] at h3
      exact h3) _ (Nat.le_refl _)
    refine ⟨hs.1, Int.le_trans hs.2 ?_⟩
    obtain ⟨e, he⟩ : ∃ e, 8 - depU cs i = e + 1 := ⟨8 - depU cs i - 1, by omega⟩
    rw [he, Nat.add_sub_cancel]
    have hp := pw_pos e
    have hm := Int.mul_le_mul_of_nonneg_left (show ((kidL cs i).length : Int) ≤ 24 by omega) (show 0 ≤ pw e by omega)
    have e2 : pw (e + 1) = 24 * pw e := rfl
    rw [e2]
    omega
theorem prc_good {cs : List Cls} (ht : TreeB cs = true) {f : Nat → Int} (hf : FGood cs f) {i : Nat} (hi : i < cs.length) : FGood cs (prc cs f i) := fun j hj => by
  unfold prc fset
  by_cases e : j = i
  · subst e
    rw [if_pos rfl]
    have h1 := hf j hj
    have h2 := chS_bd ht hf hj
    omega
  · rw [if_neg e]
    exact hf j hj
theorem rowF_good {cs : List Cls} (ht : TreeB cs = true) {dep : Nat} {f : Nat → Int} (hf : FGood cs f) : ∀ k, k ≤ cs.length → FGood cs (rowF cs dep f k)
  | 0, _ => hf
  | k + 1, h => by
    have ih := rowF_good ht (dep := dep) hf k (by omega)
    rw [rowF]
    split
    · exact prc_good ht ih (by omega)
    · exact ih
theorem fgood_le {cs : List Cls} (ht : TreeB cs = true) {f : Nat → Int} (hf : FGood cs f) {i : Nat} (hi : i < cs.length) : 0 ≤ f i ∧ f i ≤ 4586471424000000000 ∧ 0 ≤ chS cs f i ∧ chS cs f i ≤ 4586471424000000000 := by
  have hd := tree_dep ht i hi
  have h1 := hf i hi
  have h2 := chS_bd ht hf hi
  have h3 := pw_7 (8 - depU cs i) (by omega)
  omega
/-- The configuration with raised rates, if it is valid. -/
def rrR (n : ByteArray) (cs : List Cls) (fs : List Flt) (d : Int) : CfgR := if TreeB cs && decide (fs.length ≤ 16) && cntB cs then ifR n (mkL cs (runF cs 8 (rateAt cs) 8) (fun _ => true)) fs d else noCfg
theorem rrR_len (n : ByteArray) (cs : List Cls) (fs : List Flt) (d : Int) (hz : n.size + cs.length + fs.length ≤ 1048576) : (rrR n cs fs d).cls.length ≤ 2000000 ∧ (rrR n cs fs d).flt.length ≤ 2000000 := by
  unfold rrR
  split
  · exact ifR_len _ _ _ _ _ ⟨by rw [mkL_len]; omega, by omega⟩
  · simp [noCfg]
end Go.Proofs.YtidahgoihgodnaaDoor
