/- The text of a fault, taken apart: the plain side, no program. -/
import Derived.Test.YtnamgkiealfffaaDoorTxtP
import Derived.Lib.AtoiTie
import Derived.Lib.IndexMore
namespace Go.Proofs.YtnamgkiealfffaaDoor
open Go.RowKit
set_option maxRecDepth 20000
set_option linter.unusedVariables false
set_option linter.unusedSimpArgs false
/-- The kinds' names. -/
def kNames : List ByteArray := [⟨#[110, 111, 110, 101]⟩, ⟨#[98, 121, 116, 101]⟩, ⟨#[116, 111, 107, 101, 110]⟩, ⟨#[110, 117, 109, 98, 101, 114]⟩, ⟨#[100, 101, 112, 116, 104]⟩, ⟨#[99, 111, 117, 110, 116]⟩, ⟨#[101, 110, 100]⟩, ⟨#[110, 97, 109, 101]⟩]
def nmK (k : Nat) : ByteArray := kNames.getD k ⟨#[]⟩
def atT : ByteArray := ⟨#[32, 97, 116, 32]⟩
def shw (k : Nat) (n : Int) : ByteArray := nmK k ++ atT ++ dec n
def goodF (k n : Int) : Bool := inR k 1 7 && inR n 0 6000
/-- s is the text of the fault (k, n). -/
def IsF (s : ByteArray) (k n : Int) : Prop := goodF k n = true ∧ s = shw k.toNat n
theorem ba_eq {s : ByteArray} {l : List UInt8} (h : s.data.toList = l) : s = ⟨l.toArray⟩ := by
  apply ByteArray.ext
  rw [← h]
theorem ba_eq2 {s t : ByteArray} (h : s.data.toList = t.data.toList) : s = t := by
  apply ByteArray.ext
  rw [← Array.toList_inj]
  exact h
theorem eq_toList {x s : ByteArray} : (x.toList == s.toList) = true ↔ x = s := by
  rw [beq_iff_eq, ByteArray.toList_eq, ByteArray.toList_eq]
  exact ⟨ba_eq2, fun h => by rw [h]⟩
theorem ne_toList {x s : ByteArray} : (x.toList == s.toList) = false ↔ x ≠ s := by
  rw [← Bool.not_eq_true, Ne, eq_toList]
theorem nmK_inj {j k : Nat} (hj : j < 8) (hk : k < 8) (h : nmK j = nmK k) : j = k := by
  have hd : ∀ j, j < 8 → ∀ k, k < 8 → (nmK j).data.toList = (nmK k).data.toList → j = k := by decide
  exact hd j hj k hk (by rw [h])
theorem nmK_clean {k : Nat} (hk : k < 8) : ∀ c ∈ (nmK k).data.toList, c ≠ 32 := by
  have hd : ∀ k, k < 8 → ∀ c ∈ (nmK k).data.toList, c ≠ 32 := by decide
  exact hd k hk
theorem nmK_size {k : Nat} : (nmK k).size ≤ 6 := by
  by_cases hk : k < 8
  · have hd : ∀ k, k < 8 → (nmK k).size ≤ 6 := by decide
    exact hd k hk
  · have : nmK k = ⟨#[]⟩ := by
      unfold nmK
      rw [List.getD_eq_getElem?_getD, List.getElem?_eq_none (by simp [kNames]; omega)]
      rfl
    rw [this]
    exact Nat.zero_le 6
theorem shw_list (k : Nat) (n : Int) : (shw k n).data.toList = (nmK k).data.toList ++ (32 :: 97 :: 116 :: 32 :: (dec n).data.toList) := by
  unfold shw
  rw [ByteArray.data_append, ByteArray.data_append]
  simp [atT]
/-! ### digits -/
theorem digit_of (d : Nat) (h : d < 10) : Lib.digitVal (UInt8.ofNat (48 + d)) = some d := by
  have hd : ∀ d, d < 10 → Lib.digitVal (UInt8.ofNat (48 + d)) = some d := by decide
  exact hd d h
theorem decFrom_snoc : ∀ (l : List UInt8) (a v d : Nat) (c : UInt8), Lib.decFrom a l = some v → Lib.digitVal c = some d → Lib.decFrom a (l ++ [c]) = some (v * 10 + d)
  | [], a, v, d, c, h, hc => by
    simp only [Lib.decFrom, Option.some.injEq] at h
    subst h
    simp [Lib.decFrom, hc]
  | b :: r, a, v, d, c, h, hc => by
    simp only [List.cons_append, Lib.decFrom] at h ⊢
    cases hb : Lib.digitVal b with
    | none => rw [hb] at h; cases h
    | some e => rw [hb] at h; exact decFrom_snoc r _ v d c h hc
theorem decFrom_dec (n : Nat) : Lib.decFrom 0 (Lib.decDigits n) = some n := by
  induction n using Nat.strongRecOn with
  | ind n ih =>
    rw [Lib.decDigits]
    split
    · rename_i h
      rw [Lib.decFrom, digit_of n h]
      simp [Lib.decFrom]
    · rename_i h
      rw [decFrom_snoc _ _ _ _ _ (ih (n / 10) (by omega)) (digit_of (n % 10) (by omega))]
      congr 1
      omega
theorem dec_ne (n : Nat) : Lib.decDigits n ≠ [] := by
  rw [Lib.decDigits]
  split <;> simp
/-- The first digit is no zero, but of 0. -/
theorem dec_head (n : Nat) (h : 1 ≤ n) : ∃ c r, Lib.decDigits n = c :: r ∧ 49 ≤ c.toNat ∧ c.toNat ≤ 57 := by
  induction n using Nat.strongRecOn with
  | ind n ih =>
    rw [Lib.decDigits]
    split
    · rename_i h9
      refine ⟨_, [], rfl, ?_⟩
      have hd : ∀ d, d < 10 → 1 ≤ d → 49 ≤ (UInt8.ofNat (48 + d)).toNat ∧ (UInt8.ofNat (48 + d)).toNat ≤ 57 := by decide
      exact hd n h9 h
    · rename_i h9
      obtain ⟨c, r, e, h1, h2⟩ := ih (n / 10) (by omega) (by omega)
      exact ⟨c, r ++ [UInt8.ofNat (48 + n % 10)], by rw [e]; rfl, h1, h2⟩
theorem dec_zero : Lib.decDigits 0 = [48] := by rw [Lib.decDigits, dif_pos (by omega)]; rfl
theorem atoi_dec {n : Int} (h0 : 0 ≤ n) (h1 : n ≤ 6000) : Lib.atoiAll (dec n).data.toList = .ok n := by
  have hl := digs_le 9 n.toNat (by omega)
  show Lib.atoiAll (Lib.decDigits n.toNat) = _
  rw [Lib.atoiAll_short _ (by omega)]
  have hv : Lib.decNat (Lib.decDigits n.toNat) = some n.toNat := by
    unfold Lib.decNat
    rw [if_neg (by simpa using dec_ne n.toNat)]
    exact decFrom_dec _
  have hd : ∃ c r, Lib.decDigits n.toNat = c :: r ∧ 48 ≤ c.toNat ∧ c.toNat ≤ 57 := by
    by_cases h : 1 ≤ n.toNat
    · obtain ⟨c, r, e, h1, h2⟩ := dec_head _ h
      exact ⟨c, r, e, by omega, h2⟩
    · have : n.toNat = 0 := by omega
      rw [this, dec_zero]
      exact ⟨48, [], rfl, by decide, by decide⟩
  obtain ⟨c, r, e, c0, c1⟩ := hd
  rw [e] at hv ⊢
  have n45 : (c == 45) = false := by
    rw [beq_eq_false_iff_ne]
    rintro rfl
    exact absurd c0 (by decide)
  have n43 : (c == 43) = false := by
    rw [beq_eq_false_iff_ne]
    rintro rfl
    exact absurd c0 (by decide)
  simp only [Lib.atoi, n45, n43, Bool.false_eq_true, if_false, hv, Option.map_some, Lib.NumEnd.ofOption]
  congr 1
  omega
/-! ### the cut -/
theorem index_clean (r : List UInt8) : ∀ (l : List UInt8), (∀ c ∈ l, c ≠ 32) → Lib.index (l ++ (32 :: 97 :: 116 :: 32 :: r)) [32, 97, 116, 32] = l.length
  | [], _ => by simp [Lib.index, List.isPrefixOf]
  | b :: l, h => by
    have hb : b ≠ 32 := h b (by simp)
    have ih := index_clean r l (fun c hc => h c (by simp [hc]))
    rw [List.cons_append, Lib.index, if_neg, ih, if_neg]
    · simp
    · rw [beq_iff_eq]; omega
    · simp only [List.isPrefixOf, Bool.and_eq_true, beq_iff_eq, not_and]
      intro h1
      exact absurd h1.symm hb
theorem cut_shw {k : Nat} (hk : k < 8) (n : Int) : Lib.cut (shw k n).data.toList [32, 97, 116, 32] = ((nmK k).data.toList, (dec n).data.toList, true) := by
  have hi := index_clean (dec n).data.toList (nmK k).data.toList (nmK_clean hk)
  rw [← shw_list k n] at hi
  unfold Lib.cut
  rw [hi, if_pos (by omega), shw_list]
  simp only [Int.toNat_natCast, List.take_left, Prod.mk.injEq, true_and, and_true]
  rw [List.drop_append]
  simp
/-! ### the words -/
def splitL : List UInt8 → List (List UInt8)
  | [] => [[]]
  | c :: r => if c = 32 then [] :: splitL r else match splitL r with
    | [] => [[c]]
    | h :: t => (c :: h) :: t
theorem splitL_pre (r : List UInt8) : ∀ (l : List UInt8), (∀ c ∈ l, c ≠ 32) → splitL (l ++ 32 :: r) = l :: splitL r
  | [], _ => by simp [splitL]
  | b :: l, h => by
    rw [List.cons_append, splitL, if_neg (h b (by simp)), splitL_pre r l (fun c hc => h c (by simp [hc]))]
theorem splitL_end : ∀ (l : List UInt8), (∀ c ∈ l, c ≠ 32) → splitL l = [l]
  | [], _ => by simp [splitL]
  | b :: l, h => by
    rw [splitL, if_neg (h b (by simp)), splitL_end l (fun c hc => h c (by simp [hc]))]
theorem dec_clean (n : Nat) : ∀ c ∈ Lib.decDigits n, c ≠ 32 := by
  induction n using Nat.strongRecOn with
  | ind n ih =>
    rw [Lib.decDigits]
    have hd : ∀ d, d < 10 → UInt8.ofNat (48 + d) ≠ 32 := by decide
    split
    · rename_i h
      intro c hc
      rw [List.mem_singleton] at hc
      rw [hc]
      exact hd n h
    · intro c hc
      rw [List.mem_append, List.mem_singleton] at hc
      rcases hc with hc | hc
      · exact ih (n / 10) (by omega) c hc
      · rw [hc]
        exact hd _ (by omega)
theorem split_shw {k : Nat} (hk : k < 8) (n : Int) : splitL (shw k n).data.toList = [(nmK k).data.toList, [97, 116], (dec n).data.toList] := by
  rw [shw_list, splitL_pre _ _ (nmK_clean hk)]
  have h2 : splitL ([97, 116] ++ 32 :: (dec n).data.toList) = [97, 116] :: splitL (dec n).data.toList := splitL_pre _ _ (by decide)
  rw [show (97 :: 116 :: 32 :: (dec n).data.toList) = [97, 116] ++ 32 :: (dec n).data.toList from rfl, h2, splitL_end (dec n).data.toList (dec_clean n.toNat)]
/-- A word's number, or -1. -/
def rdV (z : ByteArray) : Int := if 1 ≤ z.size ∧ z.size ≤ 6 ∧ ¬ (z.data.toList.head? = some 48 ∧ 1 < z.size) then (match Lib.decFrom 0 z.data.toList with
  | some v => (v : Int)
  | none => -1) else -1
theorem rdV_dec {n : Int} (h0 : 0 ≤ n) (h1 : n ≤ 6000) : rdV (dec n) = n := by
  have hl := digs_le 3 n.toNat (by omega)
  have hn := dec_ne n.toNat
  have hs : (dec n).size = (Lib.decDigits n.toNat).length := by simp [dec, ByteArray.size]
  have hp : 1 ≤ (Lib.decDigits n.toNat).length := List.length_pos_iff.2 hn
  unfold rdV
  rw [if_pos]
  · show (match Lib.decFrom 0 (Lib.decDigits n.toNat) with | some v => (v : Int) | none => -1) = n
    rw [decFrom_dec]
    show ((n.toNat : Nat) : Int) = n
    omega
  · refine ⟨by omega, by omega, ?_⟩
    rintro ⟨h2, h3⟩
    have h2' : (Lib.decDigits n.toNat).head? = some 48 := h2
    by_cases h : 1 ≤ n.toNat
    · obtain ⟨c, r, e, c0, c1⟩ := dec_head _ h
      rw [e] at h2'
      simp only [List.head?_cons, Option.some.injEq] at h2'
      subst h2'
      exact absurd c0 (by decide)
    · have : n.toNat = 0 := by omega
      rw [hs, this, dec_zero] at h3
      simp at h3
end Go.Proofs.YtnamgkiealfffaaDoor
