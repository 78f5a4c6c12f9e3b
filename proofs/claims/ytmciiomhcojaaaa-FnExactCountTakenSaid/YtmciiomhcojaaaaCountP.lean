/- Bits counted: the plain side. -/
import Derived.Test.YtmciiomhcojaaaaPF2
namespace Go.Proofs.Ytmciiomhcojaaaa
open Go.RowKit
set_option maxHeartbeats 1000000
set_option linter.unusedSimpArgs false
set_option linter.unusedVariables false

def c1 (x : Int) : Int := IntKind.u64.wrap (bits .and .u64 (x / 2) 6148914691236517205 + bits .and .u64 x 6148914691236517205)
def c2 (x : Int) : Int := IntKind.u64.wrap (bits .and .u64 (x / 4) 3689348814741910323 + bits .and .u64 x 3689348814741910323)
def c3 (x : Int) : Int := bits .and .u64 (IntKind.u64.wrap (x / 16 + x)) 1085102592571150095
def c4 (x : Int) : Int := IntKind.u64.wrap (x + x / 256)
def c5 (x : Int) : Int := IntKind.u64.wrap (x + x / 65536)
def c6 (x : Int) : Int := IntKind.u64.wrap (x + x / 4294967296)
def pcI (x : Int) : Int := bits .and .i64 (wrap64 (c6 (c5 (c4 (c3 (c2 (c1 x))))))) 127
def n1 (n : Nat) : Nat := ((n / 2) &&& 6148914691236517205) + (n &&& 6148914691236517205)
def n2 (n : Nat) : Nat := ((n / 4) &&& 3689348814741910323) + (n &&& 3689348814741910323)
def n3 (n : Nat) : Nat := (n / 16 + n) &&& 1085102592571150095
def n4 (n : Nat) : Nat := n + n / 256
def n5 (n : Nat) : Nat := n + n / 65536
def n6 (n : Nat) : Nat := n + n / 4294967296
def pcN (n : Nat) : Nat := n6 (n5 (n4 (n3 (n2 (n1 n))))) &&& 127
theorem n1_le (n : Nat) : n1 n ≤ 2 * n := by
  have b1 : ((n / 2) &&& 6148914691236517205) ≤ n / 2 := Nat.and_le_left
  have b2 : (n &&& 6148914691236517205) ≤ n := Nat.and_le_left
  unfold n1; omega
theorem n2_le (n : Nat) : n2 n ≤ 2 * n := by
  have b1 : ((n / 4) &&& 3689348814741910323) ≤ n / 4 := Nat.and_le_left
  have b2 : (n &&& 3689348814741910323) ≤ n := Nat.and_le_left
  unfold n2; omega
theorem n3_le (n : Nat) : n3 n ≤ 2 * n := by
  have b1 : ((n / 16 + n) &&& 1085102592571150095) ≤ n / 16 + n := Nat.and_le_left
  unfold n3; omega
theorem n4_le (n : Nat) : n4 n ≤ 2 * n := by unfold n4; omega
theorem n5_le (n : Nat) : n5 n ≤ 2 * n := by unfold n5; omega
theorem n6_le (n : Nat) : n6 n ≤ 2 * n := by unfold n6; omega
theorem wrap_u64' (n : Int) : IntKind.u64.wrap n = n % 18446744073709551616 := by simp [IntKind.wrap, IntKind.bits, IntKind.signed]
theorem u64_and' (a b : Nat) (ha : a < 18446744073709551616) (hb : b < 18446744073709551616) : bits .and .u64 (a : Int) (b : Int) = ((a &&& b : Nat) : Int) := by
  have hx : a &&& b ≤ b := Nat.and_le_right
  show IntKind.u64.wrap ((BitVec.ofInt 64 (a : Int) &&& BitVec.ofInt 64 (b : Int)).toNat : Int) = _
  have o1 : (BitVec.ofInt 64 (a : Int)).toNat = a := by
    rw [BitVec.ofInt_natCast, BitVec.toNat_ofNat]; exact Nat.mod_eq_of_lt (by omega)
  have o2 : (BitVec.ofInt 64 (b : Int)).toNat = b := by
    rw [BitVec.ofInt_natCast, BitVec.toNat_ofNat]; exact Nat.mod_eq_of_lt (by omega)
  rw [BitVec.toNat_and, o1, o2, wrap_u64']
  omega
theorem i64_and' (a b : Nat) (ha : a < 9223372036854775808) (hb : b < 9223372036854775808) : bits .and .i64 (a : Int) (b : Int) = ((a &&& b : Nat) : Int) := by
  have hx : a &&& b ≤ b := Nat.and_le_right
  show IntKind.i64.wrap ((BitVec.ofInt 64 (a : Int) &&& BitVec.ofInt 64 (b : Int)).toNat : Int) = _
  have o1 : (BitVec.ofInt 64 (a : Int)).toNat = a := by
    rw [BitVec.ofInt_natCast, BitVec.toNat_ofNat]; exact Nat.mod_eq_of_lt (by omega)
  have o2 : (BitVec.ofInt 64 (b : Int)).toNat = b := by
    rw [BitVec.ofInt_natCast, BitVec.toNat_ofNat]; exact Nat.mod_eq_of_lt (by omega)
  rw [BitVec.toNat_and, o1, o2, IntKind.wrap_i64]
  omega
theorem c1_nat (n : Nat) (h : n < 9223372036854775808) : c1 n = (n1 n : Nat) := by
  have e1 := u64_and' (n / 2) 6148914691236517205 (by omega) (by omega)
  have e2 := u64_and' n 6148914691236517205 (by omega) (by omega)
  have b1 : (n / 2) &&& 6148914691236517205 ≤ 6148914691236517205 := Nat.and_le_right
  have b2 : n &&& 6148914691236517205 ≤ 6148914691236517205 := Nat.and_le_right
  unfold c1 n1
  rw [show ((n : Int) / 2) = ((n / 2 : Nat) : Int) by omega]
  generalize (n / 2) &&& 6148914691236517205 = p at e1 b1 ⊢
  generalize n &&& 6148914691236517205 = q at e2 b2 ⊢
  rw [show (6148914691236517205 : Int) = ((6148914691236517205 : Nat) : Int) from rfl, e1, e2, wrap_u64']
  omega
theorem c2_nat (n : Nat) (h : n < 18446744073709551616) : c2 n = (n2 n : Nat) := by
  have e1 := u64_and' (n / 4) 3689348814741910323 (by omega) (by omega)
  have e2 := u64_and' n 3689348814741910323 (by omega) (by omega)
  have b1 : (n / 4) &&& 3689348814741910323 ≤ 3689348814741910323 := Nat.and_le_right
  have b2 : n &&& 3689348814741910323 ≤ 3689348814741910323 := Nat.and_le_right
  unfold c2 n2
  rw [show ((n : Int) / 4) = ((n / 4 : Nat) : Int) by omega]
  generalize (n / 4) &&& 3689348814741910323 = p at e1 b1 ⊢
  generalize n &&& 3689348814741910323 = q at e2 b2 ⊢
  rw [show (3689348814741910323 : Int) = ((3689348814741910323 : Nat) : Int) from rfl, e1, e2, wrap_u64']
  omega
theorem c3_nat (n : Nat) (h : n < 9223372036854775808) : c3 n = (n3 n : Nat) := by
  have e1 := u64_and' (n / 16 + n) 1085102592571150095 (by omega) (by omega)
  unfold c3 n3
  rw [wrap_u64', show ((n : Int) / 16 + n) % 18446744073709551616 = ((n / 16 + n : Nat) : Int) by omega]
  exact e1
theorem c4_nat (n : Nat) (h : n < 2000000000000000000) : c4 n = (n4 n : Nat) := by unfold c4 n4; rw [wrap_u64']; omega
theorem c5_nat (n : Nat) (h : n < 2000000000000000000) : c5 n = (n5 n : Nat) := by unfold c5 n5; rw [wrap_u64']; omega
theorem c6_nat (n : Nat) (h : n < 2000000000000000000) : c6 n = (n6 n : Nat) := by unfold c6 n6; rw [wrap_u64']; omega
theorem pcI_nat (n : Nat) (h : n < 65536) : pcI n = pcN n := by
  unfold pcI pcN
  have b1 := n1_le n
  have b2 := n2_le (n1 n)
  have b3 := n3_le (n2 (n1 n))
  have b4 := n4_le (n3 (n2 (n1 n)))
  have b5 := n5_le (n4 (n3 (n2 (n1 n))))
  have b6 := n6_le (n5 (n4 (n3 (n2 (n1 n)))))
  rw [c1_nat n (by omega), c2_nat _ (by omega), c3_nat _ (by omega), c4_nat _ (by omega), c5_nat _ (by omega), c6_nat _ (by omega), IntWalk.wrap64_in _ ⟨by omega, by omega⟩]
  exact i64_and' _ 127 (by omega) (by omega)
def allB (p : Nat → Bool) : Nat → Nat → Bool
  | 0, b => p b
  | d + 1, b => allB p d b && allB p d (b + 2 ^ d)
theorem allB_spec (p : Nat → Bool) : ∀ (d b : Nat), allB p d b = true → ∀ i, i < 2 ^ d → p (b + i) = true
  | 0, b, h, i, hi => by
    have : i = 0 := by simpa using hi
    subst this
    exact h
  | d + 1, b, h, i, hi => by
    simp only [allB, Bool.and_eq_true] at h
    by_cases hd : i < 2 ^ d
    · exact allB_spec p d b h.1 i hd
    · have := allB_spec p d (b + 2 ^ d) h.2 (i - 2 ^ d) (by rw [Nat.pow_succ] at hi; omega)
      rwa [show b + 2 ^ d + (i - 2 ^ d) = b + i by omega] at this
/-- The reference's count after j rounds. -/
def cnt (m : Nat) : Nat → Nat
  | 0 => 65536
  | j + 1 => if m &&& 2 ^ j = 0 then cnt m j else cnt m j / 2
theorem cnt_le (m : Nat) : ∀ j, cnt m j ≤ 65536
  | 0 => by simp [cnt]
  | j + 1 => by
    have := cnt_le m j
    unfold cnt
    split <;> omega
/-- A number is reckoned before it is handed on. -/
def st (n : Nat) (f : Nat → Nat) : Nat := Nat.rec (f 0) (fun k _ => f (k + 1)) n
theorem st_eq (n : Nat) (f : Nat → Nat) : st n f = f n := by cases n <;> rfl
def pcS (n : Nat) : Nat := st (n1 n) fun a => st (n2 a) fun b => st (n3 b) fun c => st (n4 c) fun d => st (n5 d) fun e => st (n6 e) fun g => g &&& 127
theorem pcS_eq (n : Nat) : pcS n = pcN n := by simp only [pcS, st_eq, pcN]
def pop (m : Nat) : Nat → Nat
  | 0 => 0
  | j + 1 => pop m j + m / 2 ^ j % 2
theorem pop_le (m : Nat) : ∀ j, pop m j ≤ j
  | 0 => by simp [pop]
  | j + 1 => by
    have := pop_le m j
    unfold pop
    omega
theorem cnt_pop (m : Nat) : ∀ j, j ≤ 16 → cnt m j = 2 ^ (16 - pop m j)
  | 0, _ => by simp [cnt, pop]
  | j + 1, h => by
    have ih := cnt_pop m j (by omega)
    have hl := pop_le m j
    unfold cnt pop
    have hbit : m.testBit j = decide (m / 2 ^ j % 2 = 1) := Nat.testBit_eq_decide_div_mod_eq
    rcases Nat.mod_two_eq_zero_or_one (m / 2 ^ j) with h0 | h1
    · have hz : m &&& 2 ^ j = 0 := by
        apply Nat.eq_of_testBit_eq
        intro i
        rw [Nat.testBit_and, Nat.testBit_two_pow, Nat.zero_testBit]
        by_cases hij : j = i
        · subst hij
          rw [hbit, h0]
          simp
        · simp [hij]
      rw [if_pos hz, ih, h0, Nat.add_zero]
    · have hz : m &&& 2 ^ j ≠ 0 := by
        intro hz
        have : (m &&& 2 ^ j).testBit j = true := by
          rw [Nat.testBit_and, Nat.testBit_two_pow, hbit, h1]
          simp
        rw [hz] at this
        simp at this
      rw [if_neg hz, ih, h1, show 16 - pop m j = (16 - (pop m j + 1)) + 1 by omega, Nat.pow_succ, Nat.mul_div_cancel _ (by omega)]
def chk (m : Nat) : Bool := pcS m == pop m 16
theorem chk_0 : allB chk 12 0 = true := by decide +kernel
theorem chk_1 : allB chk 12 4096 = true := by decide +kernel
theorem chk_2 : allB chk 12 8192 = true := by decide +kernel
theorem chk_3 : allB chk 12 12288 = true := by decide +kernel
theorem chk_4 : allB chk 12 16384 = true := by decide +kernel
theorem chk_5 : allB chk 12 20480 = true := by decide +kernel
theorem chk_6 : allB chk 12 24576 = true := by decide +kernel
theorem chk_7 : allB chk 12 28672 = true := by decide +kernel
theorem chk_8 : allB chk 12 32768 = true := by decide +kernel
theorem chk_9 : allB chk 12 36864 = true := by decide +kernel
theorem chk_10 : allB chk 12 40960 = true := by decide +kernel
theorem chk_11 : allB chk 12 45056 = true := by decide +kernel
theorem chk_12 : allB chk 12 49152 = true := by decide +kernel
theorem chk_13 : allB chk 12 53248 = true := by decide +kernel
theorem chk_14 : allB chk 12 57344 = true := by decide +kernel
theorem chk_15 : allB chk 12 61440 = true := by decide +kernel
theorem chk_at (m : Nat) (h : m < 65536) : pcN m ≤ 16 ∧ 2 ^ (16 - pcN m) = cnt m 16 := by
  have key : chk m = true := by
    have hq : m = m / 4096 * 4096 + m % 4096 := by omega
    have hr : m % 4096 < 2 ^ 12 := Nat.mod_lt _ (by omega)
    have h16 : m / 4096 < 16 := by omega
    rw [hq]
    generalize m / 4096 = q at h16
    generalize m % 4096 = r at hr
    match q, h16 with
    | 0, _ => exact allB_spec chk 12 0 chk_0 r hr
    | 1, _ => exact allB_spec chk 12 4096 chk_1 r hr
    | 2, _ => exact allB_spec chk 12 8192 chk_2 r hr
    | 3, _ => exact allB_spec chk 12 12288 chk_3 r hr
    | 4, _ => exact allB_spec chk 12 16384 chk_4 r hr
    | 5, _ => exact allB_spec chk 12 20480 chk_5 r hr
    | 6, _ => exact allB_spec chk 12 24576 chk_6 r hr
    | 7, _ => exact allB_spec chk 12 28672 chk_7 r hr
    | 8, _ => exact allB_spec chk 12 32768 chk_8 r hr
    | 9, _ => exact allB_spec chk 12 36864 chk_9 r hr
    | 10, _ => exact allB_spec chk 12 40960 chk_10 r hr
    | 11, _ => exact allB_spec chk 12 45056 chk_11 r hr
    | 12, _ => exact allB_spec chk 12 49152 chk_12 r hr
    | 13, _ => exact allB_spec chk 12 53248 chk_13 r hr
    | 14, _ => exact allB_spec chk 12 57344 chk_14 r hr
    | 15, _ => exact allB_spec chk 12 61440 chk_15 r hr
    | k + 16, hk => exact absurd hk (by omega)
  have e : pcN m = pop m 16 := by
    rw [← pcS_eq]
    simpa [chk] using key
  rw [e]
  exact ⟨pop_le m 16, (cnt_pop m 16 (by omega)).symm⟩

end Go.Proofs.Ytmciiomhcojaaaa
