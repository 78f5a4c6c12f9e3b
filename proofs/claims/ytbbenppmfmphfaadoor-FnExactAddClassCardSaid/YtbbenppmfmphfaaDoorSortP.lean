/- Sorting by keys, insertion and merging in place: the plain side, no program in sight. -/
import Derived.Test.YtbbenppmfmphfaaDoorCfgP
namespace Go.Proofs.YtbbenppmfmphfaaDoor
set_option maxRecDepth 20000
set_option linter.unusedSimpArgs false
set_option linter.unusedVariables false
section
variable {α : Type}
/-- The key of the element at an index. -/
def kF (key : α → Int) (l : List α) (i : Nat) : Int := match l[i]? with
  | some x => key x
  | none => 0
theorem kF_is (key : α → Int) (l : List α) (i : Nat) (h : i < l.length) : kF key l i = key l[i] := by simp [kF, h]
theorem kF_eq (key : α → Int) {l l' : List α} {i j : Nat} (h : l[i]? = l'[j]?) : kF key l i = kF key l' j := by simp [kF, h]
/-- Sorted from a to b, b left out. -/
def SrtOn (K : Nat → Int) (a b : Nat) : Prop := ∀ i j, a ≤ i → i < j → j < b → K i ≤ K j
theorem SrtOn.le {K : Nat → Int} {a b : Nat} (h : SrtOn K a b) {i j : Nat} (h1 : a ≤ i) (h2 : i ≤ j) (h3 : j < b) : K i ≤ K j := by
  rcases Nat.lt_or_eq_of_le h2 with h2 | h2
  · exact h i j h1 h2 h3
  · subst h2; exact Int.le_refl _
theorem SrtOn.mono {K : Nat → Int} {a b a' b' : Nat} (h : SrtOn K a b) (h1 : a ≤ a') (h2 : b' ≤ b) : SrtOn K a' b' := fun i j p q r => h i j (by omega) q (by omega)
theorem SrtOn.small (K : Nat → Int) {a b : Nat} (h : b ≤ a + 1) : SrtOn K a b := fun i j p q r => by omega
/-- Two elements exchanged. -/
def swp (l : List α) (i j : Nat) : List α := match l[i]?, l[j]? with
  | some x, some y => (l.set i y).set j x
  | _, _ => l
theorem swp_at (l : List α) (i j : Nat) (hi : i < l.length) (hj : j < l.length) : swp l i j = (l.set i l[j]).set j l[i] := by
  unfold swp
  rw [List.getElem?_eq_getElem hi, List.getElem?_eq_getElem hj]
theorem swp_len (l : List α) (i j : Nat) : (swp l i j).length = l.length := by
  unfold swp
  split <;> simp
theorem swp_get (l : List α) (i j : Nat) (hi : i < l.length) (hj : j < l.length) (t : Nat) : (swp l i j)[t]? = if t = j then l[i]? else if t = i then l[j]? else l[t]? := by
  rw [swp_at l i j hi hj, List.getElem?_set, List.getElem?_set, List.length_set]
  by_cases h1 : t = j
  · subst h1; simp [hi, hj]
  · rw [if_neg (fun e => h1 e.symm), if_neg h1]
    by_cases h2 : t = i
    · subst h2; simp [hi, hj]
    · rw [if_neg (fun e => h2 e.symm), if_neg h2]
theorem swp_perm (l : List α) (i j : Nat) (hi : i < l.length) (hj : j < l.length) : (swp l i j).Perm l := by
  rw [swp_at l i j hi hj]
  exact List.set_set_perm hi hj
theorem perm_len {l l' : List α} (h : l'.Perm l) : l'.length = l.length := h.length_eq

/-! ### insertion -/
/-- All up to i is sorted but the one at j, which is at most all behind it. -/
def Ins (K : Nat → Int) (a i j : Nat) : Prop := (∀ p q, a ≤ p → p < q → q ≤ i → p ≠ j → q ≠ j → K p ≤ K q) ∧ ∀ q, j < q → q ≤ i → K j ≤ K q
theorem Ins.start {K : Nat → Int} {a i : Nat} (h : SrtOn K a i) : Ins K a i i := ⟨fun p q h1 h2 h3 h4 h5 => h p q h1 h2 (by omega), fun q h1 h2 => by omega⟩
theorem Ins.step {key : α → Int} {l : List α} {a i j : Nat} (h : Ins (kF key l) a i j) (hj : a < j) (hji : j ≤ i) (hi : i < l.length) (hk : kF key l j < kF key l (j - 1)) : Ins (kF key (swp l j (j - 1))) a i (j - 1) := by
  have hK : ∀ t, kF key (swp l j (j - 1)) t = if t = j - 1 then kF key l j else if t = j then kF key l (j - 1) else kF key l t := fun t => by
    have := swp_get l j (j - 1) (by omega) (by omega) t
    split at this
    · rename_i e; rw [if_pos e]; exact kF_eq key this
    · rename_i e
      rw [if_neg e]
      split at this
      · rename_i e2; rw [if_pos e2]; exact kF_eq key this
      · rename_i e2; rw [if_neg e2]; exact kF_eq key this
  obtain ⟨h1, h2⟩ := h
  constructor
  · intro p q hp hpq hq hpj hqj
    rw [hK p, hK q, if_neg hpj, if_neg hqj]
    by_cases e1 : p = j
    · rw [if_pos e1, if_neg (by omega)]
      exact h1 (j - 1) q (by omega) (by omega) hq (by omega) (by omega)
    · rw [if_neg e1]
      by_cases e2 : q = j
      · rw [if_pos e2]
        exact h1 p (j - 1) hp (by omega) (by omega) e1 (by omega)
      · rw [if_neg e2]
        exact h1 p q hp hpq hq e1 e2
  · intro q hq hqi
    rw [hK (j - 1), hK q, if_pos rfl, if_neg (by omega)]
    by_cases e : q = j
    · rw [if_pos e]; omega
    · rw [if_neg e]
      exact h2 q (by omega) hqi
theorem Ins.stop {K : Nat → Int} {a i j : Nat} (h : Ins K a i j) (hj : a ≤ j) (hji : j ≤ i) (hk : j = a ∨ K (j - 1) ≤ K j) : SrtOn K a (i + 1) := by
  obtain ⟨h1, h2⟩ := h
  intro p q hp hpq hq
  by_cases e1 : p = j
  · subst e1; exact h2 q hpq (by omega)
  · by_cases e2 : q = j
    · subst e2
      rcases hk with hk | hk
      · omega
      · by_cases e3 : p = q - 1
        · subst e3; exact hk
        · exact Int.le_trans (h1 p (q - 1) hp (by omega) (by omega) (by omega) (by omega)) hk
    · exact h1 p q hp hpq (by omega) e1 e2

/-! ### one element moved -/
/-- cur is l with the element at a moved up to k. -/
def Up (l cur : List α) (a k : Nat) : Prop := ∀ t, cur[t]? = if a ≤ t ∧ t < k then l[t + 1]? else if t = k then l[a]? else l[t]?
theorem Up.start (l : List α) (a : Nat) : Up l l a a := fun t => by
  rw [if_neg (by omega)]
  by_cases e : t = a
  · rw [if_pos e, e]
  · rw [if_neg e]
theorem Up.step {l cur : List α} {a k : Nat} (h : Up l cur a k) (ha : a ≤ k) (hk : k + 1 < cur.length) : Up l (swp cur k (k + 1)) a (k + 1) := fun t => by
  rw [swp_get cur k (k + 1) (by omega) hk]
  by_cases e1 : t = k + 1
  · rw [if_pos e1, h k, if_neg (by omega), if_pos rfl, if_neg (by omega), if_pos e1]
  · rw [if_neg e1]
    by_cases e2 : t = k
    · subst e2
      rw [if_pos rfl, h (t + 1), if_neg (by omega), if_neg (by omega), if_pos (by omega)]
    · rw [if_neg e2, h t]
      by_cases e3 : a ≤ t ∧ t < k
      · rw [if_pos e3, if_pos (by omega)]
      · rw [if_neg e3, if_neg e2, if_neg (by omega), if_neg e1]
/-- cur is l with the element at m moved down to k. -/
def Dn (l cur : List α) (m k : Nat) : Prop := ∀ t, cur[t]? = if t = k then l[m]? else if k < t ∧ t ≤ m then l[t - 1]? else l[t]?
theorem Dn.start (l : List α) (m : Nat) : Dn l l m m := fun t => by
  by_cases e : t = m
  · rw [if_pos e, e]
  · rw [if_neg e, if_neg (by omega)]
theorem Dn.step {l cur : List α} {m k : Nat} (h : Dn l cur m k) (hm : k ≤ m) (hk0 : 0 < k) (hk : k < cur.length) : Dn l (swp cur k (k - 1)) m (k - 1) := fun t => by
  rw [swp_get cur k (k - 1) hk (by omega)]
  by_cases e1 : t = k - 1
  · rw [if_pos e1, if_pos e1, h k, if_pos rfl]
  · rw [if_neg e1, if_neg e1]
    by_cases e2 : t = k
    · subst e2
      rw [if_pos rfl, h (t - 1), if_neg (by omega), if_neg (by omega), if_pos (by omega)]
    · rw [if_neg e2, h t, if_neg e2]
      by_cases e3 : k < t ∧ t ≤ m
      · rw [if_pos e3, if_pos (by omega)]
      · rw [if_neg e3, if_neg (by omega)]

/-! ### what merging leaves -/
/-- l' is l, sorted from a to b, the rest as it was. -/
def Mrg (key : α → Int) (l l' : List α) (a b : Nat) : Prop := l'.Perm l ∧ SrtOn (kF key l') a b ∧ (∀ t, (t < a ∨ b ≤ t) → l'[t]? = l[t]?) ∧ ∀ t, a ≤ t → t < b → ∃ s, a ≤ s ∧ s < b ∧ l'[t]? = l[s]?
theorem Mrg.same {key : α → Int} {l : List α} {a b : Nat} (h : SrtOn (kF key l) a b) : Mrg key l l a b := ⟨List.Perm.refl _, h, fun _ _ => rfl, fun t h1 h2 => ⟨t, h1, h2, rfl⟩⟩
theorem Mrg.up {key : α → Int} {l cur : List α} {a b i : Nat} (h : Up l cur a (i - 1)) (hp : cur.Perm l) (hs : SrtOn (kF key l) (a + 1) b) (hi : a + 1 ≤ i) (hib : i ≤ b)
    (h1 : a + 1 < i → kF key l (i - 1) ≤ kF key l a) (h2 : i < b → kF key l a ≤ kF key l i) : Mrg key l cur a b := by
  have hK : ∀ t, kF key cur t = if a ≤ t ∧ t < i - 1 then kF key l (t + 1) else if t = i - 1 then kF key l a else kF key l t := fun t => by
    have := h t
    split at this
    · rename_i e; rw [if_pos e]; exact kF_eq key this
    · rename_i e
      rw [if_neg e]
      split at this
      · rename_i e2; rw [if_pos e2]; exact kF_eq key this
      · rename_i e2; rw [if_neg e2]; exact kF_eq key this
  refine ⟨hp, fun p q ha hpq hq => ?_, fun t ht => ?_, fun t ht1 ht2 => ?_⟩
  · rw [hK p, hK q]
    by_cases e1 : p < i - 1
    · rw [if_pos ⟨ha, e1⟩]
      by_cases e2 : q < i - 1
      · rw [if_pos ⟨by omega, e2⟩]; exact hs _ _ (by omega) (by omega) (by omega)
      · rw [if_neg (by omega)]
        by_cases e3 : q = i - 1
        · rw [if_pos e3]; exact Int.le_trans (hs.le (by omega) (show p + 1 ≤ i - 1 by omega) (by omega)) (h1 (by omega))
        · rw [if_neg e3]; exact hs _ _ (by omega) (by omega) (by omega)
    · rw [if_neg (by omega), if_neg (by omega : ¬ (a ≤ q ∧ q < i - 1)), if_neg (by omega : ¬ q = i - 1)]
      by_cases e3 : p = i - 1
      · rw [if_pos e3]; exact Int.le_trans (h2 (by omega)) (hs.le (by omega) (by omega) (by omega))
      · rw [if_neg e3]; exact hs _ _ (by omega) (by omega) (by omega)
  · rw [h t, if_neg (by omega), if_neg (by omega)]
  · rw [h t]
    by_cases e1 : a ≤ t ∧ t < i - 1
    · rw [if_pos e1]; exact ⟨t + 1, by omega, by omega, rfl⟩
    · rw [if_neg e1]
      by_cases e2 : t = i - 1
      · rw [if_pos e2]; exact ⟨a, by omega, by omega, rfl⟩
      · rw [if_neg e2]; exact ⟨t, by omega, by omega, rfl⟩
theorem Mrg.dn {key : α → Int} {l cur : List α} {a m i : Nat} (h : Dn l cur m i) (hp : cur.Perm l) (hs : SrtOn (kF key l) a m) (hi : a ≤ i) (hib : i ≤ m)
    (h1 : a < i → kF key l (i - 1) ≤ kF key l m) (h2 : i < m → kF key l m ≤ kF key l i) : Mrg key l cur a (m + 1) := by
  have hK : ∀ t, kF key cur t = if t = i then kF key l m else if i < t ∧ t ≤ m then kF key l (t - 1) else kF key l t := fun t => by
    have := h t
    split at this
    · rename_i e; rw [if_pos e]; exact kF_eq key this
    · rename_i e
      rw [if_neg e]
      split at this
      · rename_i e2; rw [if_pos e2]; exact kF_eq key this
      · rename_i e2; rw [if_neg e2]; exact kF_eq key this
  refine ⟨hp, fun p q ha hpq hq => ?_, fun t ht => ?_, fun t ht1 ht2 => ?_⟩
  · rw [hK p, hK q]
    by_cases e1 : p = i
    · rw [if_pos e1, if_neg (by omega), if_pos (by omega)]
      exact Int.le_trans (h2 (by omega)) (hs.le (by omega) (by omega) (by omega))
    · rw [if_neg e1]
      by_cases e2 : i < p
      · rw [if_pos ⟨e2, by omega⟩, if_neg (by omega), if_pos (by omega)]
        exact hs _ _ (by omega) (by omega) (by omega)
      · rw [if_neg (by omega)]
        by_cases e3 : q = i
        · rw [if_pos e3]
          exact Int.le_trans (hs.le ha (show p ≤ i - 1 by omega) (by omega)) (h1 (by omega))
        · rw [if_neg e3]
          by_cases e4 : i < q
          · rw [if_pos ⟨e4, by omega⟩]
            exact hs.le ha (by omega) (by omega)
          · rw [if_neg (by omega)]
            exact hs _ _ ha hpq (by omega)
  · rw [h t, if_neg (by omega), if_neg (by omega)]
  · rw [h t]
    by_cases e1 : t = i
    · rw [if_pos e1]; exact ⟨m, by omega, by omega, rfl⟩
    · rw [if_neg e1]
      by_cases e2 : i < t ∧ t ≤ m
      · rw [if_pos e2]; exact ⟨t - 1, by omega, by omega, rfl⟩
      · rw [if_neg e2]; exact ⟨t, by omega, by omega, rfl⟩

/-! ### two runs exchanged -/
def rot (a m b t : Nat) : Nat := if t < a then t else if t < a + (b - m) then t + (m - a) else if t < b then t - (b - m) else t
theorem rot_id (a m b : Nat) (h1 : a ≤ m) (h2 : m ≤ b) (h : a = m ∨ m = b) (t : Nat) : rot a m b t = t := by
  unfold rot
  split
  · rfl
  · split
    · omega
    · split <;> omega
/-- n places from a on and n places from b on exchanged. -/
def swR (a b n t : Nat) : Nat := if a ≤ t ∧ t < a + n then t + (b - a) else if b ≤ t ∧ t < b + n then t - (b - a) else t
theorem rot_left (m i j t : Nat) (hij : j < i) (him : i ≤ m) : rot (m - i) m (m + j) t = swR (m - i) m j (rot (m - (i - j)) m (m + j) t) := by
  unfold rot swR
  repeat' split
  all_goals omega
theorem rot_right (m i j t : Nat) (hij : i < j) (him : i ≤ m) : rot (m - i) m (m + j) t = swR (m - i) (m + j - i) i (rot (m - i) m (m + (j - i)) t) := by
  unfold rot swR
  repeat' split
  all_goals omega
theorem rot_even (m i t : Nat) (him : i ≤ m) : rot (m - i) m (m + i) t = swR (m - i) m i t := by
  unfold rot swR
  repeat' split
  all_goals omega
theorem swR_step {l cur : List α} {a b k : Nat} (hab : a + k < b) (hk : b + k < cur.length) (h : ∀ t, cur[t]? = l[swR a b k t]?) (t : Nat) : (swp cur (a + k) (b + k))[t]? = l[swR a b (k + 1) t]? := by
  rw [swp_get cur (a + k) (b + k) (by omega) hk]
  by_cases e1 : t = b + k
  · subst e1
    rw [if_pos rfl, h]
    congr 1
    unfold swR
    repeat' split
    all_goals omega
  · rw [if_neg e1]
    by_cases e2 : t = a + k
    · subst e2
      rw [if_pos rfl, h]
      congr 1
      unfold swR
      repeat' split
      all_goals omega
    · rw [if_neg e2, h]
      congr 1
      unfold swR
      repeat' split
      all_goals omega
/-- The merge: where the two middle runs are exchanged. -/
theorem Mrg.halves {key : α → Int} {l l1 l2 l3 : List α} {a m b mid st en : Nat} (ham : a < m) (hmb : m < b) (hmid : mid = (a + b) / 2) (hst : a ≤ st) (hsm : st ≤ m) (hme : m ≤ en) (heb : en ≤ b) (hse : st + en = mid + m)
    (hs1 : SrtOn (kF key l) a m) (hs2 : SrtOn (kF key l) m b)
    (hb1 : a < st → en < b → kF key l (st - 1) ≤ kF key l en) (hb2 : st < m → m < en → kF key l (en - 1) ≤ kF key l st)
    (hr : ∀ t, l1[t]? = l[rot st m en t]?) (hp : l1.Perm l)
    (h12 : Mrg key l1 l2 a mid) (h23 : Mrg key l2 l3 mid b) : Mrg key l l3 a b := by
  obtain ⟨p12, s12, o12, i12⟩ := h12
  obtain ⟨p23, s23, o23, i23⟩ := h23
  have hK1 : ∀ t, kF key l1 t = kF key l (rot st m en t) := fun t => kF_eq key (hr t)
  have hcross : ∀ s s', a ≤ s → s < mid → mid ≤ s' → s' < b → kF key l1 s ≤ kF key l1 s' := by
    intro s s' h1 h2 h3 h4
    rw [hK1, hK1]
    have r1 : rot st m en s = if s < st then s else s + (m - st) := by
      unfold rot
      split
      · rfl
      · rw [if_pos (by omega)]
    have r2 : rot st m en s' = if s' < en then s' - (en - m) else s' := by
      unfold rot
      rw [if_neg (by omega), if_neg (by omega)]
    rw [r1, r2]
    split
    · split
      · exact hs1.le h1 (by omega) (by omega)
      · exact Int.le_trans (hs1.le h1 (show s ≤ st - 1 by omega) (by omega)) (Int.le_trans (hb1 (by omega) (by omega)) (hs2.le hme (by omega) h4))
    · split
      · exact Int.le_trans (hs2.le (by omega) (show s + (m - st) ≤ en - 1 by omega) (by omega)) (Int.le_trans (hb2 (by omega) (by omega)) (hs1.le hst (by omega) (by omega)))
      · exact hs2.le (by omega) (by omega) h4
  have hlow : ∀ t, a ≤ t → t < mid → ∃ s, a ≤ s ∧ s < mid ∧ l3[t]? = l1[s]? := fun t h1 h2 => by
    obtain ⟨s, c1, c2, c3⟩ := i12 t h1 h2
    exact ⟨s, c1, c2, (o23 t (by omega)).trans c3⟩
  have hhigh : ∀ t, mid ≤ t → t < b → ∃ s, mid ≤ s ∧ s < b ∧ l3[t]? = l1[s]? := fun t h1 h2 => by
    obtain ⟨s, c1, c2, c3⟩ := i23 t h1 h2
    exact ⟨s, c1, c2, c3.trans (o12 s (by omega))⟩
  refine ⟨(p23.trans p12).trans hp, fun i j h1 h2 h3 => ?_, fun t ht => ?_, fun t h1 h2 => ?_⟩
  · by_cases e1 : j < mid
    · rw [kF_eq key (o23 i (by omega)), kF_eq key (o23 j (by omega))]
      exact s12 i j h1 h2 e1
    · by_cases e2 : mid ≤ i
      · exact s23 i j e2 h2 h3
      · obtain ⟨s, c1, c2, c3⟩ := hlow i h1 (by omega)
        obtain ⟨s', d1, d2, d3⟩ := hhigh j (by omega) h3
        rw [kF_eq key c3, kF_eq key d3]
        exact hcross s s' c1 c2 d1 d2
  · rw [o23 t (by omega), o12 t (by omega), hr t]
    congr 1
    unfold rot
    repeat' split
    all_goals omega
  · have hin : ∀ s, a ≤ s → s < b → a ≤ rot st m en s ∧ rot st m en s < b := fun s c1 c2 => by
      unfold rot
      repeat' split
      all_goals omega
    rcases Nat.lt_or_ge t mid with h | h
    · obtain ⟨s, c1, c2, c3⟩ := hlow t h1 h
      have := hin s c1 (by omega)
      exact ⟨_, this.1, this.2, c3.trans (hr s)⟩
    · obtain ⟨s, c1, c2, c3⟩ := hhigh t h h2
      have := hin s (by omega) c2
      exact ⟨_, this.1, this.2, c3.trans (hr s)⟩
/-- The runs after the exchange. -/
theorem rot_runs {key : α → Int} {l l1 : List α} {a m b mid st en : Nat} (hst : a ≤ st) (hsm : st ≤ m) (hme : m ≤ en) (heb : en ≤ b) (hse : st + en = mid + m)
    (hs1 : SrtOn (kF key l) a m) (hs2 : SrtOn (kF key l) m b) (hr : ∀ t, l1[t]? = l[rot st m en t]?) :
    SrtOn (kF key l1) a st ∧ SrtOn (kF key l1) st mid ∧ SrtOn (kF key l1) mid en ∧ SrtOn (kF key l1) en b := by
  have hK1 : ∀ t, kF key l1 t = kF key l (rot st m en t) := fun t => kF_eq key (hr t)
  refine ⟨fun i j h1 h2 h3 => ?_, fun i j h1 h2 h3 => ?_, fun i j h1 h2 h3 => ?_, fun i j h1 h2 h3 => ?_⟩
  · rw [hK1, hK1, show rot st m en i = i by unfold rot; rw [if_pos (by omega)], show rot st m en j = j by unfold rot; rw [if_pos (by omega)]]
    exact hs1 i j h1 h2 (by omega)
  · rw [hK1, hK1, show rot st m en i = i + (m - st) by unfold rot; rw [if_neg (by omega), if_pos (by omega)], show rot st m en j = j + (m - st) by unfold rot; rw [if_neg (by omega), if_pos (by omega)]]
    exact hs2 _ _ (by omega) (by omega) (by omega)
  · rw [hK1, hK1, show rot st m en i = i - (en - m) by unfold rot; rw [if_neg (by omega), if_neg (by omega), if_pos (by omega)], show rot st m en j = j - (en - m) by unfold rot; rw [if_neg (by omega), if_neg (by omega), if_pos (by omega)]]
    exact hs1 _ _ (by omega) (by omega) (by omega)
  · rw [hK1, hK1, show rot st m en i = i by unfold rot; rw [if_neg (by omega), if_neg (by omega), if_neg (by omega)], show rot st m en j = j by unfold rot; rw [if_neg (by omega), if_neg (by omega), if_neg (by omega)]]
    exact hs2 _ _ (by omega) h2 h3
end
end Go.Proofs.YtbbenppmfmphfaaDoor
