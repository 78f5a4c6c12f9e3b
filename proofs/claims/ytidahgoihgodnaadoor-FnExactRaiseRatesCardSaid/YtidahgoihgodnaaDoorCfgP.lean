/- Configurations: the plain side, no program in sight: indices, ways up. -/
import Derived.Test.YtidahgoihgodnaaDoorMem
namespace Go.Proofs.YtidahgoihgodnaaDoor
set_option maxRecDepth 20000
set_option linter.unusedVariables false
/-- The first index from k on with a property, of m. -/
def fndN (p : Nat → Bool) : Nat → Nat → Int
  | _, 0 => -1
  | k, m + 1 => if p k then (k : Int) else fndN p (k + 1) m
theorem fndN_step (p : Nat → Bool) (k n : Nat) (h : k < n) : fndN p k (n - k) = if p k then (k : Int) else fndN p (k + 1) (n - (k + 1)) := by
  obtain ⟨m, hm⟩ : ∃ m, n - k = m + 1 := ⟨n - k - 1, by omega⟩
  rw [hm, fndN, show n - (k + 1) = m by omega]
theorem fndN_bd (p : Nat → Bool) : ∀ (m k : Nat), fndN p k m = -1 ∨ ((k : Int) ≤ fndN p k m ∧ fndN p k m < k + m)
  | 0, k => .inl rfl
  | m + 1, k => by
    unfold fndN
    split
    · exact .inr (by omega)
    · rcases fndN_bd p m (k + 1) with h | h
      · exact .inl h
      · exact .inr (by omega)
theorem fndN_spec (p : Nat → Bool) : ∀ (m k : Nat), (fndN p k m = -1 → ∀ j, k ≤ j → j < k + m → p j = false) ∧ (∀ u : Nat, fndN p k m = u → p u = true ∧ ∀ j, k ≤ j → j < u → p j = false)
  | 0, k => ⟨fun _ j h1 h2 => absurd h2 (by omega), fun u hu => by have : fndN p k 0 = -1 := rfl; omega⟩
  | m + 1, k => by
    obtain ⟨h1, h2⟩ := fndN_spec p m (k + 1)
    unfold fndN
    by_cases hp : p k = true
    · rw [if_pos hp]
      refine ⟨fun h => by omega, fun u hu => ?_⟩
      obtain rfl : k = u := by omega
      exact ⟨hp, fun j a b => by omega⟩
    · rw [if_neg hp]
      have hp' : p k = false := by simpa using hp
      refine ⟨fun h j a b => ?_, fun u hu => ?_⟩
      · by_cases e : j = k
        · subst e; exact hp'
        · exact h1 h j (by omega) (by omega)
      · obtain ⟨a, b⟩ := h2 u hu
        refine ⟨a, fun j c d => ?_⟩
        by_cases e : j = k
        · subst e; exact hp'
        · exact b j (by omega) d
/-- The indices below n with a property. -/
def pick (p : Nat → Bool) : Nat → List Int
  | 0 => []
  | n + 1 => pick p n ++ (if p n then [(n : Int)] else [])
theorem pick_len (p : Nat → Bool) : ∀ n, (pick p n).length ≤ n
  | 0 => by simp [pick]
  | n + 1 => by
    have := pick_len p n
    unfold pick
    rw [List.length_append]
    split <;> simp <;> omega
theorem pick_nil (p : Nat → Bool) : ∀ n, pick p n = [] ↔ ∀ j, j < n → p j = false
  | 0 => by simp [pick]
  | n + 1 => by
    have ih := pick_nil p n
    unfold pick
    rw [List.append_eq_nil_iff, ih]
    constructor
    · rintro ⟨h1, h2⟩ j hj
      by_cases e : j = n
      · subst e
        cases hp : p j
        · rfl
        · rw [hp] at h2; simp at h2
      · exact h1 j (by omega)
    · intro h
      refine ⟨fun j hj => h j (by omega), ?_⟩
      rw [h n (by omega)]
      rfl
theorem pick_mem (p : Nat → Bool) (x : Int) : ∀ n, x ∈ pick p n → ∃ j : Nat, x = j ∧ j < n ∧ p j = true
  | 0, h => by simp [pick] at h
  | n + 1, h => by
    unfold pick at h
    rcases List.mem_append.1 h with h | h
    · obtain ⟨j, a, b, c⟩ := pick_mem p x n h
      exact ⟨j, a, by omega, c⟩
    · split at h
      · rename_i hp
        simp at h
        exact ⟨n, h, by omega, hp⟩
      · simp at h
theorem pick_congr (p q : Nat → Bool) : ∀ n, (∀ j, j < n → p j = q j) → pick p n = pick q n
  | 0, _ => rfl
  | n + 1, h => by
    unfold pick
    rw [pick_congr p q n (fun j hj => h j (by omega)), h n (by omega)]
/-- A list of different numbers below n has at most n of them. -/
theorem few (n : Nat) : ∀ (l : List Nat), l.Nodup → (∀ x ∈ l, x < n) → l.length ≤ n := by
  induction n with
  | zero =>
    intro l _ h
    cases l with
    | nil => simp
    | cons x l => exact absurd (h x (by simp)) (by omega)
  | succ n ih =>
    intro l hd h
    have h1 : (l.erase n).Nodup := hd.erase n
    have h2 : ∀ x ∈ l.erase n, x < n := fun x hx => by
      have hne : x ≠ n := fun e => by subst e; exact (List.Nodup.not_mem_erase hd) hx
      have := h x (List.mem_of_mem_erase hx)
      omega
    have h3 := ih _ h1 h2
    have h4 : l.length ≤ (l.erase n).length + 1 := by rw [List.length_erase]; split <;> omega
    omega
/-- The way up: index after index, -1 behind its end. -/
def itU (f : Nat → Int) (i : Nat) : Nat → Int
  | 0 => i
  | j + 1 => if itU f i j < 0 then -1 else f (itU f i j).toNat
/-- The way is over at m: it has ended, or it comes to an index that it has met. -/
def stopU (f : Nat → Int) (i m : Nat) : Bool := decide (itU f i m < 0) || (List.range m).any fun j => itU f i j == itU f i m
section
variable {f : Nat → Int} {n : Nat}
theorem itU_step {i j : Nat} (h : 0 ≤ itU f i j) : itU f i (j + 1) = f (itU f i j).toNat := by
  rw [itU, if_neg (by omega)]
theorem itU_end {i j : Nat} (h : itU f i j < 0) : itU f i (j + 1) = -1 := by
  rw [itU, if_pos h]
theorem itU_over {i j : Nat} (h : itU f i j < 0) : ∀ t, itU f i (j + t) < 0
  | 0 => h
  | t + 1 => by rw [← Nat.add_assoc, itU_end (itU_over h t)]; omega
theorem itU_bd (hf : ∀ k, k < n → f k = -1 ∨ (0 ≤ f k ∧ f k < n)) {i : Nat} (hi : i < n) : ∀ j, itU f i j = -1 ∨ (0 ≤ itU f i j ∧ itU f i j < n)
  | 0 => .inr (by simp [itU]; omega)
  | j + 1 => by
    rcases itU_bd hf hi j with h | ⟨h1, h2⟩
    · exact .inl (itU_end (by omega))
    · rw [itU_step h1]
      exact hf _ (by omega)
/-- Where two indices of the way are one, so are all behind them. -/
theorem itU_shift {i a b : Nat} (h : itU f i a = itU f i b) : ∀ t, itU f i (a + t) = itU f i (b + t)
  | 0 => h
  | t + 1 => by rw [← Nat.add_assoc, ← Nat.add_assoc, itU, itU, itU_shift h t]
/-- A way that meets an index again never ends. -/
theorem itU_never {i a m : Nat} (ham : a < m) (h : itU f i a = itU f i m) (hpos : ∀ j, j ≤ m → 0 ≤ itU f i j) : ∀ j, 0 ≤ itU f i j := by
  intro j
  induction j using Nat.strongRecOn with
  | _ j ih =>
    by_cases hj : j ≤ m
    · exact hpos j hj
    · have := itU_shift h (j - m)
      rw [show m + (j - m) = j by omega] at this
      rw [← this]
      exact ih (a + (j - m)) (by omega)
theorem stopU_false {i m : Nat} (h : stopU f i m = false) : 0 ≤ itU f i m ∧ ∀ j, j < m → itU f i j ≠ itU f i m := by
  simp only [stopU, Bool.or_eq_false_iff, decide_eq_false_iff_not, List.any_eq_false, List.mem_range, beq_iff_eq] at h
  exact ⟨by omega, fun j hj => h.2 j hj⟩
theorem stopU_true {i m : Nat} (h : stopU f i m = true) : itU f i m < 0 ∨ ∃ j, j < m ∧ itU f i j = itU f i m := by
  simp only [stopU, Bool.or_eq_true, decide_eq_true_eq, List.any_eq_true, List.mem_range, beq_iff_eq] at h
  rcases h with h | ⟨j, hj, he⟩
  · exact .inl h
  · exact .inr ⟨j, hj, he⟩
/-- If the way is not over at any index up to m, it has gone over m + 1 different ones. -/
theorem way_few (hf : ∀ k, k < n → f k = -1 ∨ (0 ≤ f k ∧ f k < n)) {i : Nat} (hi : i < n) (m : Nat) (h : ∀ j, j < m → stopU f i j = false) : m ≤ n := by
  have hl := few n ((List.range m).map fun j => (itU f i j).toNat) ?_ ?_
  · simpa using hl
  · rw [List.Nodup, List.pairwise_map]
    have hp : (List.range m).Pairwise fun a b => a < b := List.pairwise_lt_range
    refine (List.Pairwise.and_mem.1 hp).imp ?_
    rintro a b ⟨ha, hb, hab⟩
    have ha' := List.mem_range.1 ha
    have hb' := List.mem_range.1 hb
    have h1 := stopU_false (h a ha')
    have h2 := stopU_false (h b hb')
    have h3 := h2.2 a hab
    omega
  · intro x hx
    obtain ⟨j, hj, rfl⟩ := List.mem_map.1 hx
    have h1 := stopU_false (h j (List.mem_range.1 hj))
    rcases itU_bd hf hi j with h2 | h2 <;> omega
/-- How many indices the way has before it is over. -/
def wayN (f : Nat → Int) (i n : Nat) : Nat := (fndN (stopU f i) 0 (n + 1)).toNat
theorem wayN_spec (hf : ∀ k, k < n → f k = -1 ∨ (0 ≤ f k ∧ f k < n)) {i : Nat} (hi : i < n) : wayN f i n ≤ n ∧ 0 < wayN f i n ∧ stopU f i (wayN f i n) = true ∧ ∀ j, j < wayN f i n → stopU f i j = false := by
  unfold wayN
  rcases fndN_bd (stopU f i) (n + 1) 0 with h | ⟨h1, h2⟩
  · exfalso
    have h3 := (fndN_spec (stopU f i) (n + 1) 0).1 h
    have := way_few hf hi (n + 1) (fun j hj => h3 j (by omega) (by omega))
    omega
  · obtain ⟨u, hu⟩ := Int.eq_ofNat_of_zero_le (show 0 ≤ fndN (stopU f i) 0 (n + 1) by omega)
    obtain ⟨a, b⟩ := (fndN_spec (stopU f i) (n + 1) 0).2 u hu
    rw [hu]
    have h0 : stopU f i 0 = false := by simp [stopU, itU]; exact decide_eq_false (by omega)
    refine ⟨by simp; omega, ?_, by simpa using a, fun j hj => b j (by omega) (by simpa using hj)⟩
    rcases Nat.eq_zero_or_pos u with e | e
    · subst e; rw [h0] at a; cases a
    · simpa using e
theorem wayN_is (hf : ∀ k, k < n → f k = -1 ∨ (0 ≤ f k ∧ f k < n)) {i : Nat} (hi : i < n) (m : Nat) (h1 : stopU f i m = true) (h2 : ∀ j, j < m → stopU f i j = false) : wayN f i n = m := by
  obtain ⟨a, b, c, d⟩ := wayN_spec hf hi
  rcases Nat.lt_trichotomy (wayN f i n) m with h | h | h
  · rw [h2 _ h] at c; cases c
  · exact h
  · rw [d _ h] at h1; cases h1
/-- The way ends. -/
def endsU (f : Nat → Int) (i n : Nat) : Bool := decide (itU f i (wayN f i n) < 0)
theorem endsU_iff (hf : ∀ k, k < n → f k = -1 ∨ (0 ≤ f k ∧ f k < n)) {i : Nat} (hi : i < n) (m : Nat) (h : itU f i m < 0) : endsU f i n = true ∧ wayN f i n ≤ m := by
  obtain ⟨a, b, c, d⟩ := wayN_spec hf hi
  have hm : wayN f i n ≤ m := by
    rcases Nat.lt_or_ge m (wayN f i n) with h1 | h1
    · have := (stopU_false (d m h1)).1
      omega
    · exact h1
  refine ⟨?_, hm⟩
  rcases stopU_true c with h1 | ⟨j, hj, he⟩
  · simp [endsU, h1]
  · rcases Int.lt_or_le (itU f i (wayN f i n)) 0 with h2 | h2
    · simp [endsU, h2]
    · exfalso
      have := itU_never hj he (fun t ht => by
        rcases Nat.lt_or_eq_of_le ht with h3 | h3
        · exact (stopU_false (d t h3)).1
        · rw [h3]; exact h2) m
      omega
theorem ends_pos (hf : ∀ k, k < n → f k = -1 ∨ (0 ≤ f k ∧ f k < n)) {i : Nat} (hi : i < n) (h : endsU f i n = false) (m : Nat) : 0 ≤ itU f i m := by
  rcases Int.lt_or_le (itU f i m) 0 with h1 | h1
  · have := (endsU_iff hf hi m h1).1
    rw [h] at this
    cases this
  · exact h1
/-- The way comes back to its first index. -/
def cycU (f : Nat → Int) (i n : Nat) : Bool := !endsU f i n && (itU f i (wayN f i n) == (i : Int))
theorem cyc_back (hf : ∀ k, k < n → f k = -1 ∨ (0 ≤ f k ∧ f k < n)) {i : Nat} (hi : i < n) (m : Nat) (hm : 0 < m) (h : itU f i m = i) (hl : ∀ j, 0 < j → j < m → itU f i j ≠ i) : cycU f i n = true ∧ wayN f i n = m := by
  obtain ⟨a, b, c, d⟩ := wayN_spec hf hi
  have hpos : ∀ j, 0 ≤ itU f i j := by
    refine itU_never (a := 0) hm (by rw [h]; rfl) (fun j hj => ?_)
    rcases Int.lt_or_le (itU f i j) 0 with h1 | h1
    · have := itU_over h1 (m - j)
      rw [show j + (m - j) = m by omega] at this
      omega
    · exact h1
  have hw : wayN f i n = m := by
    refine wayN_is hf hi m ?_ (fun j hj => ?_)
    · simp only [stopU, Bool.or_eq_true, decide_eq_true_eq, List.any_eq_true, List.mem_range, beq_iff_eq]
      exact .inr ⟨0, hm, by rw [h]; rfl⟩
    · cases hs : stopU f i j
      · rfl
      · exfalso
        rcases stopU_true hs with h1 | ⟨q, hq, he⟩
        · have := hpos j; omega
        · have hq0 : q ≠ 0 := fun e => by
            subst e
            exact hl j (by omega) hj (by rw [← he]; rfl)
          have key : ∀ t, ∃ s, q ≤ s ∧ s < j ∧ itU f i (q + t) = itU f i s := by
            intro t
            induction t with
            | zero => exact ⟨q, Nat.le_refl _, hq, rfl⟩
            | succ t ih =>
              obtain ⟨s, s1, s2, s3⟩ := ih
              have e1 : itU f i (q + (t + 1)) = itU f i (s + 1) := by
                rw [← Nat.add_assoc, itU, itU, s3]
              by_cases e : s + 1 = j
              · exact ⟨q, Nat.le_refl _, hq, by rw [e1, e, he]⟩
              · exact ⟨s + 1, by omega, by omega, e1⟩
          obtain ⟨s, s1, s2, s3⟩ := key (m - q)
          rw [show q + (m - q) = m by omega, h] at s3
          exact hl s (by omega) (by omega) s3.symm
  refine ⟨?_, hw⟩
  have h2 := hpos m
  simp [cycU, endsU, hw, h]
end
end Go.Proofs.YtidahgoihgodnaaDoor
