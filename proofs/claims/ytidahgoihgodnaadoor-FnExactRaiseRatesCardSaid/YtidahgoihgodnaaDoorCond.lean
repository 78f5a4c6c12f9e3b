/- The ten conditions on a configuration: the plain side, and that both sides' tests of them all are one. -/
import Derived.Test.YtidahgoihgodnaaDoorWay
import Derived.Test.YtidahgoihgodnaaDoorOver
import Derived.Test.YtidahgoihgodnaaDoorKey
import Derived.Test.YtidahgoihgodnaaDoorBits
namespace Go.Proofs.YtidahgoihgodnaaDoor
set_option maxRecDepth 20000
set_option linter.unusedVariables false
set_option linter.unusedSimpArgs false
/-- No index below n has p. -/
def noN (p : Nat → Bool) (n : Nat) : Bool := !decide (0 ≤ fndN p 0 n)
theorem noN_iff (p : Nat → Bool) (n : Nat) : noN p n = true ↔ ∀ k, k < n → p k = false := by
  have hb := fndN_bd p n 0
  have hs := fndN_spec p n 0
  unfold noN
  rw [Bool.not_eq_true', decide_eq_false_iff_not]
  constructor
  · intro h k hk
    exact hs.1 (by omega) k (by omega) (by omega)
  · intro h h0
    obtain ⟨u, hu⟩ := Int.eq_ofNat_of_zero_le h0
    have h1 := (hs.2 u hu).1
    have h2 := h u (by omega)
    rw [h2] at h1
    cases h1
theorem noN_at {p : Nat → Bool} {n k : Nat} (h : noN p n = true) (hk : k < n) : p k = false := (noN_iff p n).1 h k hk
theorem noN_found {p : Nat → Bool} {n k : Nat} (hk : k < n) (h : p k = true) : noN p n = false := by
  cases hn : noN p n
  · rfl
  · rw [noN_at hn hk] at h; cases h
theorem noN_of {p : Nat → Bool} {n : Nat} (h : fndN p 0 n = -1) : noN p n = true := by simp [noN, h]
theorem pick_len0 (p : Nat → Bool) (n : Nat) : ((((pick p n).length : Nat) : Int) == 0) = noN p n := by
  rw [Bool.eq_iff_iff, noN_iff, ← pick_nil]
  simp
theorem noC_is (cs : List Cls) (p : Cls → Bool) : (!decide (0 ≤ idxC cs p)) = noN (fun k => clsAt cs k p) cs.length := rfl
theorem noN_congr {p q : Nat → Bool} {n : Nat} (h : ∀ k, k < n → p k = q k) : noN p n = noN q n := by
  rw [Bool.eq_iff_iff, noN_iff, noN_iff]
  constructor <;> intro h1 k hk
  · rw [← h k hk]; exact h1 k hk
  · rw [h k hk]; exact h1 k hk
/-! ### the conditions -/
def idBad (cs : List Cls) (k : Nat) : Bool := !inR (idAt cs k) 1 999 || (decide (0 < k) && decide (idAt cs k ≤ idAt cs (k - 1)))
def idsB (cs : List Cls) : Bool := noN (idBad cs) cs.length && inR cs.length 1 24
def topP (cs : List Cls) (k : Nat) : Bool := parAt cs k == 0
def topsN (cs : List Cls) (k : Nat) : Int := ((pick (topP cs) k).length : Nat)
theorem topsN_succ (cs : List Cls) (k : Nat) : topsN cs (k + 1) = topsN cs k + (if topP cs k then 1 else 0) := by
  unfold topsN
  rw [pick, List.length_append]
  split <;> simp
theorem topsN_bd (cs : List Cls) (k : Nat) : 0 ≤ topsN cs k ∧ topsN cs k ≤ k := by
  have := pick_len (topP cs) k
  unfold topsN
  omega
def parB (cs : List Cls) : Bool := (topsN cs cs.length == 1) && noN (bpP cs) cs.length
def wayBad (cs : List Cls) (k : Nat) : Bool := deepP cs k || (parAt cs (itU (upF cs) k (wayN (upF cs) k cs.length - 1)).toNat != 0)
def wayB (cs : List Cls) : Bool := noN (wayBad cs) cs.length
def rateB (x : Cls) : Bool := inR x.rate 1 100000 && inR x.ceil x.rate 100000
def burstB (x : Cls) : Bool := inR x.burst 1500 1000000 && inR x.cburst 1500 1000000 && inR x.prio 0 7
def rateBad (cs : List Cls) (k : Nat) : Bool := clsAt cs k fun x => !rateB x
def burstBad (cs : List Cls) (k : Nat) : Bool := clsAt cs k fun x => !burstB x
def overB (cs : List Cls) : Bool := cntB cs && noN (overP cs) cs.length
def limAt (cs : List Cls) (i : Nat) : Int := match cs[i]? with
  | some x => x.limit
  | none => 0
theorem limAt_is (cs : List Cls) (i : Nat) (h : i < cs.length) : limAt cs i = cs[i].limit := by simp [limAt, h]
def limBad (cs : List Cls) (k : Nat) : Bool := if leafB cs k then !inR (limAt cs k) 1 60 else limAt cs k != 0
def fltB (f m v : Int) : Bool := inR f 0 3 && inR m 0 65535 && inR v 0 65535 && (bits .andNot .i64 v m == 0)
def filB1 (x : Flt) : Bool := inR x.prio 1 99 && fltB x.field x.mask x.value
def prioAt (fs : List Flt) (i : Nat) : Int := match fs[i]? with
  | some x => x.prio
  | none => 0
theorem prioAt_is (fs : List Flt) (i : Nat) (h : i < fs.length) : prioAt fs i = fs[i].prio := by simp [prioAt, h]
def filBad (cs : List Cls) (fs : List Flt) (k : Nat) : Bool := fltAt fs k (fun x => !filB1 x) || (decide (0 < k) && decide (prioAt fs k ≤ prioAt fs (k - 1))) || btP cs fs k
def filB (cs : List Cls) (fs : List Flt) : Bool := noN (filBad cs fs) fs.length && decide ((fs.length : Int) ≤ 16)
def dflB (cs : List Cls) (d : Int) : Bool := (d == 0) || leafIdB cs d
def condB (n : ByteArray) (cs : List Cls) (fs : List Flt) (d : Int) : Nat → Bool
  | 1 => nameB n
  | 2 => idsB cs
  | 3 => parB cs
  | 4 => wayB cs
  | 5 => noN (rateBad cs) cs.length
  | 6 => overB cs
  | 7 => noN (burstBad cs) cs.length
  | 8 => noN (limBad cs) cs.length
  | 9 => filB cs fs
  | _ => dflB cs d
def brkP (n : ByteArray) (cs : List Cls) (fs : List Flt) (d : Int) (k : Nat) : Bool := !condB n cs fs d (k + 1)
/-- All ten hold. -/
def goodB (n : ByteArray) (cs : List Cls) (fs : List Flt) (d : Int) : Bool := noN (brkP n cs fs d) 10
theorem good_iff (n : ByteArray) (cs : List Cls) (fs : List Flt) (d : Int) : goodB n cs fs d = true ↔ ∀ k, k < 10 → condB n cs fs d (k + 1) = true := by
  unfold goodB
  rw [noN_iff]
  exact ⟨fun h k hk => by simpa [brkP] using h k hk, fun h k hk => by simp [brkP, h k hk]⟩
theorem good_cond {n : ByteArray} {cs : List Cls} {fs : List Flt} {d : Int} (h : goodB n cs fs d = true) (k : Nat) (h1 : 0 < k) (h2 : k ≤ 10) : condB n cs fs d k = true := by
  have := (good_iff n cs fs d).1 h (k - 1) (by omega)
  rwa [show k - 1 + 1 = k by omega] at this
theorem good_len {n : ByteArray} {cs : List Cls} {fs : List Flt} {d : Int} (h : goodB n cs fs d = true) : 1 ≤ cs.length ∧ cs.length ≤ 24 ∧ fs.length ≤ 16 := by
  have h2 := good_cond h 2 (by omega) (by omega)
  have h9 := good_cond h 9 (by omega) (by omega)
  simp only [condB, idsB, filB, Bool.and_eq_true, inR_iff, decide_eq_true_eq] at h2 h9
  omega
theorem good_large (n : ByteArray) (cs : List Cls) (fs : List Flt) (d : Int) (h : 24 < cs.length ∨ 16 < fs.length) : goodB n cs fs d = false := by
  cases hg : goodB n cs fs d
  · rfl
  · have := good_len hg
    omega
theorem good_rates {n : ByteArray} {cs : List Cls} {fs : List Flt} {d : Int} (h : goodB n cs fs d = true) : RatesOk cs := by
  have h6 := good_cond h 6 (by omega) (by omega)
  simp only [condB, overB, Bool.and_eq_true] at h6
  exact cnt_ok h6.1
/-! ### the other side's test -/
def clsB (x : Cls) : Bool := inR x.id 1 999 && inR x.rate 1 100000 && inR x.ceil x.rate 100000 && inR x.burst 1500 1000000 && inR x.cburst 1500 1000000 && inR x.prio 0 7
def oneBad (cs : List Cls) (k : Nat) : Bool := clsAt cs k (fun x => !clsB x) || (decide (0 < k) && decide (idAt cs k ≤ idAt cs (k - 1)))
/-- How many indices of the way up are looked at: at most nine. -/
def upN (f : Nat → Int) (i : Nat) : Nat := if fndN (fun j => decide (itU f i j < 0)) 0 9 < 0 then 9 else (fndN (fun j => decide (itU f i j < 0)) 0 9).toNat
theorem upN_spec (f : Nat → Int) (i : Nat) : upN f i ≤ 9 ∧ 0 < upN f i ∧ (∀ j, j < upN f i → 0 ≤ itU f i j) ∧ (upN f i < 9 → itU f i (upN f i) < 0) := by
  have hb := fndN_bd (fun j => decide (itU f i j < 0)) 9 0
  have hs := fndN_spec (fun j => decide (itU f i j < 0)) 9 0
  unfold upN
  split
  · rename_i h
    have h1 := hs.1 (by omega)
    exact ⟨by omega, by omega, fun j hj => by have := h1 j (by omega) (by omega); simp at this; omega, fun hh => absurd hh (by omega)⟩
  · rename_i h
    obtain ⟨u, hu⟩ := Int.eq_ofNat_of_zero_le (show 0 ≤ fndN (fun j => decide (itU f i j < 0)) 0 9 by omega)
    rw [hu]
    have h1 := hs.2 u hu
    have h2 : itU f i u < 0 := by simpa using h1.1
    have h3 : u ≠ 0 := fun e => by
      subst e
      have : itU f i 0 = (i : Int) := rfl
      omega
    exact ⟨by simp; omega, by simp; omega, fun j hj => by have := h1.2 j (by omega) (by simpa using hj); simp at this; omega, fun _ => by simpa using h2⟩
theorem upN_is {f : Nat → Int} {i m : Nat} (h1 : m ≤ 9) (h2 : ∀ j, j < m → 0 ≤ itU f i j) (h3 : m = 9 ∨ itU f i m < 0) : upN f i = m := by
  obtain ⟨a, b, c, d⟩ := upN_spec f i
  rcases Nat.lt_trichotomy (upN f i) m with h | h | h
  · have := d (by omega)
    have := h2 _ h
    omega
  · exact h
  · rcases h3 with h3 | h3
    · omega
    · have := c m h
      omega
theorem up_way {cs : List Cls} {k : Nat} (hk : k < cs.length) : upN (upF cs) k ≤ 8 ↔ deepP cs k = false := by
  obtain ⟨a, b, c, d⟩ := upN_spec (upF cs) k
  obtain ⟨p, q, r, s⟩ := wayN_spec (upF_bd cs) hk
  constructor
  · intro h
    have h1 := d (by omega)
    have h2 := endsU_iff (upF_bd cs) hk _ h1
    simp only [deepP, h2.1, Bool.not_true, Bool.false_or, decide_eq_false_iff_not]
    omega
  · intro h
    simp only [deepP, Bool.or_eq_false_iff, Bool.not_eq_false', decide_eq_false_iff_not] at h
    have h1 : itU (upF cs) k (wayN (upF cs) k cs.length) < 0 := by simpa [endsU] using h.1
    have := upN_is (f := upF cs) (i := k) (m := wayN (upF cs) k cs.length) (by omega) (fun j hj => (stopU_false (s j hj)).1) (.inr h1)
    omega
theorem up_is {cs : List Cls} {k : Nat} (hk : k < cs.length) (h : deepP cs k = false) : upN (upF cs) k = wayN (upF cs) k cs.length := by
  obtain ⟨p, q, r, s⟩ := wayN_spec (upF_bd cs) hk
  simp only [deepP, Bool.or_eq_false_iff, Bool.not_eq_false', decide_eq_false_iff_not] at h
  have h1 : itU (upF cs) k (wayN (upF cs) k cs.length) < 0 := by simpa [endsU] using h.1
  exact upN_is (by omega) (fun j hj => (stopU_false (s j hj)).1) (.inr h1)
def upBad (cs : List Cls) (k : Nat) : Bool := decide (8 < upN (upF cs) k) || (parAt cs (itU (upF cs) k (upN (upF cs) k - 1)).toNat != 0)
theorem upBad_is {cs : List Cls} {k : Nat} (hk : k < cs.length) : upBad cs k = wayBad cs k := by
  unfold upBad wayBad
  cases hd : deepP cs k
  · rw [up_is hk hd, decide_eq_false (by have := (up_way hk).2 hd; rw [up_is hk hd] at this; omega)]
  · rw [decide_eq_true]
    · rfl
    · have := mt (up_way hk).1 (by rw [hd]; simp)
      omega
def twoBad (cs : List Cls) (k : Nat) : Bool := upBad cs k || overP cs k || limBad cs k
def treeB (cs : List Cls) : Bool := noN (oneBad cs) cs.length && (topsN cs cs.length == 1) && noN (twoBad cs) cs.length
def specB (n : ByteArray) (cs : List Cls) (fs : List Flt) (d : Int) : Bool := nameB n && inR cs.length 1 24 && treeB cs && filB cs fs && dflB cs d
theorem way_par {cs : List Cls} {k : Nat} (hk : k < cs.length) (h : wayBad cs k = false) : bpP cs k = false := by
  obtain ⟨p, q, r, s⟩ := wayN_spec (upF_bd cs) hk
  have hb : bpP cs k = (parAt cs k != 0 && decide (findI cs (parAt cs k) < 0)) := by
    rw [parAt_is cs k hk]; exact clsAt_is cs k _ hk
  rw [hb]
  simp only [wayBad, Bool.or_eq_false_iff] at h
  rcases Nat.lt_or_ge 1 (wayN (upF cs) k cs.length) with h1 | h1
  · have h2 := (stopU_false (s 1 h1)).1
    have h3 : itU (upF cs) k 1 = findI cs (parAt cs k) := by
      rw [itU_step (show 0 ≤ itU (upF cs) k 0 from Int.natCast_nonneg k)]
      rfl
    rw [h3] at h2
    rw [decide_eq_false (by omega)]
    simp
  · have h2 : wayN (upF cs) k cs.length - 1 = 0 := by omega
    rw [h2] at h
    have h3 : (parAt cs k != 0) = false := h.2
    rw [h3]
    rfl
theorem one_is {cs : List Cls} {k : Nat} (hk : k < cs.length) : oneBad cs k = (idBad cs k || rateBad cs k || burstBad cs k) := by
  unfold oneBad idBad rateBad burstBad
  rw [clsAt_is cs k _ hk, clsAt_is cs k _ hk, clsAt_is cs k _ hk, idAt_is cs k hk]
  simp only [clsB, rateB, burstB]
  generalize (decide (0 < k) && decide (cs[k].id ≤ idAt cs (k - 1))) = e
  cases inR cs[k].id 1 999 <;> cases inR cs[k].rate 1 100000 <;> cases inR cs[k].ceil cs[k].rate 100000 <;> cases inR cs[k].burst 1500 1000000 <;> cases inR cs[k].cburst 1500 1000000 <;> cases inR cs[k].prio 0 7 <;> cases e <;> rfl
theorem rates_cnt {cs : List Cls} (h : ∀ k, k < cs.length → rateBad cs k = false) : cntB cs = true := by
  rw [show cntB cs = noN (fun k => clsAt cs k rateWild) cs.length from rfl, noN_iff]
  intro k hk
  have := h k hk
  rw [show rateBad cs k = _ from clsAt_is cs k _ hk] at this
  rw [clsAt_is cs k _ hk]
  simp only [rateB, Bool.not_eq_false', Bool.and_eq_true, inR_iff] at this
  simp [rateWild]
  omega
theorem good_eq (n : ByteArray) (cs : List Cls) (fs : List Flt) (d : Int) : specB n cs fs d = goodB n cs fs d := by
  rw [Bool.eq_iff_iff, good_iff]
  simp only [specB, treeB, Bool.and_eq_true, noN_iff, twoBad, Bool.or_eq_false_iff]
  constructor
  · rintro ⟨⟨⟨⟨hn, hl⟩, ⟨h1, ht⟩, h2⟩, hf⟩, hd⟩
    have h1' : ∀ k, k < cs.length → idBad cs k = false ∧ rateBad cs k = false ∧ burstBad cs k = false := fun k hk => by
      have := h1 k hk
      rw [one_is hk] at this
      simpa [and_assoc] using this
    have hw : ∀ k, k < cs.length → wayBad cs k = false := fun k hk => by rw [← upBad_is hk]; exact (h2 k hk).1.1
    intro k hk
    match k, hk with
    | 0, _ => exact hn
    | 1, _ => exact (Bool.and_eq_true _ _).mpr ⟨(noN_iff _ _).2 fun k hk => (h1' k hk).1, hl⟩
    | 2, _ => exact (Bool.and_eq_true _ _).mpr ⟨ht, (noN_iff _ _).2 fun k hk => way_par hk (hw k hk)⟩
    | 3, _ => exact (noN_iff _ _).2 hw
    | 4, _ => exact (noN_iff _ _).2 fun k hk => (h1' k hk).2.1
    | 5, _ => exact (Bool.and_eq_true _ _).mpr ⟨rates_cnt fun k hk => (h1' k hk).2.1, (noN_iff _ _).2 fun k hk => (h2 k hk).1.2⟩
    | 6, _ => exact (noN_iff _ _).2 fun k hk => (h1' k hk).2.2
    | 7, _ => exact (noN_iff _ _).2 fun k hk => (h2 k hk).2
    | 8, _ => exact hf
    | 9, _ => exact hd
    | k + 10, hk => exact absurd hk (by omega)
  · intro h
    have g1 := h 0 (by omega)
    have g2 := h 1 (by omega)
    have g3 := h 2 (by omega)
    have g4 := h 3 (by omega)
    have g5 := h 4 (by omega)
    have g6 := h 5 (by omega)
    have g7 := h 6 (by omega)
    have g8 := h 7 (by omega)
    have g9 := h 8 (by omega)
    have g10 := h 9 (by omega)
    simp only [condB, idsB, parB, wayB, overB, Bool.and_eq_true, noN_iff] at g1 g2 g3 g4 g5 g6 g7 g8 g9 g10
    refine ⟨⟨⟨⟨g1, g2.2⟩, ⟨fun k hk => ?_, g3.1⟩, fun k hk => ⟨⟨?_, g6.2 k hk⟩, g8 k hk⟩⟩, g9⟩, g10⟩
    · rw [one_is hk, g2.1 k hk, g5 k hk, g7 k hk]
      rfl
    · rw [upBad_is hk]
      exact g4 k hk
end Go.Proofs.YtidahgoihgodnaaDoor
