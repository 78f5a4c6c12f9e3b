/- Attributes: ends and sizes, the plain side. -/
import Derived.Test.YtifhjhgccknndaaDoorAttr4
namespace Go.Proofs.YtifhjhgccknndaaDoor
def szA (x : Att) : Int := 4 + ((x.data.size : Int) + 3) / 4 * 4
/-- The sizes of the first k attributes, added. -/
def preSz (l : List Att) : Nat → Int
  | 0 => 0
  | k + 1 => preSz l k + match l[k]? with
    | some x => szA x
    | none => 0
theorem preSz_succ (l : List Att) (k : Nat) (h : k < l.length) : preSz l (k + 1) = preSz l k + szA l[k] := by
  simp [preSz, h]
theorem endN_is (l : List Att) (i : Nat) (h : i < l.length) : endN l i = i + 1 + spanD l[i].depth (l.drop (i + 1)) := by simp [endN, h]
theorem span_in (d : Int) : ∀ (r : List Att) (k : Nat) (x : Att), r[k]? = some x → k < spanD d r → d < x.depth
  | [], k, x, h, _ => by simp at h
  | y :: r, k, x, h, hk => by
    unfold spanD at hk
    split at hk
    · rename_i hy
      match k, h, hk with
      | 0, h, _ => simp at h; subst h; exact hy
      | k + 1, h, hk => exact span_in d r k x (by simpa using h) (by omega)
    · omega
theorem span_at (d : Int) : ∀ (r : List Att) (x : Att), r[spanD d r]? = some x → ¬ d < x.depth
  | [], x, h => by simp [spanD] at h
  | y :: r, x, h => by
    unfold spanD at h
    split at h
    · exact span_at d r x (by simpa using h)
    · rename_i hy
      simp at h
      subst h
      exact hy
theorem end_in (l : List Att) (i k : Nat) (h : i < l.length) (hk : k < l.length) (h1 : i < k) (h2 : k < endN l i) : l[i].depth < l[k].depth := by
  rw [endN_is l i h] at h2
  refine span_in _ (l.drop (i + 1)) (k - (i + 1)) l[k] ?_ (by omega)
  rw [List.getElem?_drop, show i + 1 + (k - (i + 1)) = k by omega]
  exact List.getElem?_eq_getElem hk
theorem end_at (l : List Att) (i : Nat) (h : i < l.length) (he : endN l i < l.length) : l[endN l i].depth ≤ l[i].depth := by
  have := span_at l[i].depth (l.drop (i + 1)) l[endN l i] (by
    rw [List.getElem?_drop, ← endN_is l i h]
    exact List.getElem?_eq_getElem he)
  omega
/-- No attribute of a range reaches beyond it. -/
def closed (l : List Att) (a b : Nat) : Prop := ∀ k, a ≤ k → k < b → endN l k ≤ b
theorem closed_all (l : List Att) : closed l 0 l.length := fun k _ hk => (endN_lt l k hk).2
theorem closed_in (l : List Att) (i : Nat) (h : i < l.length) : closed l (i + 1) (endN l i) := by
  intro k hk1 hk2
  have hel := (endN_lt l i h).2
  have hkl : k < l.length := by omega
  rcases Nat.lt_or_ge (endN l i) (endN l k) with hlt | hge
  · exfalso
    have h1 := end_in l i k h hkl (by omega) hk2
    have he : endN l i < l.length := by have := (endN_lt l k hkl).2; omega
    have h2 := end_in l k (endN l i) hkl he hk2 hlt
    have h3 := end_at l i h he
    omega
  · exact hge
theorem closed_from {l : List Att} {a b c : Nat} (h : closed l a b) (hc : a ≤ c) : closed l c b := fun k h1 h2 => h k (by omega) h2
/-- Only a nested attribute is followed by a deeper one. -/
theorem goodFrom_nest : ∀ (l : List Att) (most : Int), goodFrom most l = true → ∀ k x y, l[k]? = some x → l[k + 1]? = some y → y.depth ≤ mostAft x
  | [], _, _, k, x, y, h, _ => by simp at h
  | z :: r, most, h, k, x, y, hx, hy => by
    simp only [goodFrom, Bool.and_eq_true] at h
    match k, hx, hy with
    | 0, hx, hy =>
      simp at hx
      subst hx
      exact (goodFrom_get r _ h.2).1 y (by simpa using hy)
    | k + 1, hx, hy => exact goodFrom_nest r _ h.2 k x y (by simpa using hx) (by simpa using hy)
theorem good_nest {l : List Att} (h : goodB l = true) (k : Nat) (hk : k + 1 < l.length) : l[k + 1].depth ≤ mostAft l[k] := by
  simp only [goodB, Bool.and_eq_true, decide_eq_true_eq] at h
  exact goodFrom_nest l 1 h.2 k _ _ (List.getElem?_eq_getElem (by omega)) (List.getElem?_eq_getElem hk)
theorem end_leaf {l : List Att} (hg : goodB l = true) (i : Nat) (h : i < l.length) (hn : l[i].nested = false) : endN l i = i + 1 := by
  rw [endN_is l i h]
  by_cases hk : i + 1 < l.length
  · have h1 := good_nest hg i hk
    rw [show mostAft l[i] = l[i].depth by simp [mostAft, hn]] at h1
    rw [spanD_step _ l (i + 1) hk, if_neg (by omega)]
  · rw [spanD_end _ _ _ (by omega)]
theorem sz_nested {l : List Att} (hg : goodB l = true) (i : Nat) (h : i < l.length) (hn : l[i].nested = true) : szA l[i] = 4 := by
  have hd := ((good_get hg).2.2.2 l[i] (List.getElem_mem h)).2.2.2.2.2 hn
  have : l[i].data.size = 0 := by
    have h2 : l[i].data.toList = [] := by simpa using hd
    have h3 : l[i].data.toList.length = l[i].data.size := by rw [ByteArray.toList_eq]; simp
    rw [h2] at h3
    simpa using h3.symm
  simp [szA, this]
theorem sz_bd {l : List Att} (hg : goodB l = true) (i : Nat) (h : i < l.length) : 4 ≤ szA l[i] ∧ szA l[i] ≤ 1004 := by
  have hd := ((good_get hg).2.2.2 l[i] (List.getElem_mem h)).2.2.2.2.1
  unfold szA
  omega
theorem preSz_mono {l : List Att} (hg : goodB l = true) : ∀ (i j : Nat), i ≤ j → j ≤ l.length → preSz l i + 4 * ((j : Int) - i) ≤ preSz l j ∧ preSz l j ≤ preSz l i + 1004 * ((j : Int) - i) := by
  intro i j hij
  induction j with
  | zero => intro _; have : i = 0 := by omega
            subst this; omega
  | succ j ih =>
    intro hj
    by_cases e : i = j + 1
    · subst e; omega
    · have h1 := ih (by omega) (by omega)
      have h2 := sz_bd hg j (by omega)
      rw [preSz_succ l j (by omega)]
      push_cast
      omega
end Go.Proofs.YtifhjhgccknndaaDoor
