/- Plain facts on the bit operations of int, without the program. -/
import Derived.Test.YtnamgkiealfffaaDoorBase
namespace Go.Proofs.YtnamgkiealfffaaDoor
open Go.RowKit
set_option maxRecDepth 20000
abbrev bv (x : Int) : BitVec 64 := BitVec.ofInt 64 x
/-- x is an int. -/
def I64 (x : Int) : Prop := -9223372036854775808 ≤ x ∧ x ≤ 9223372036854775807
theorem wrap_toInt (z : BitVec 64) : IntKind.i64.wrap (z.toNat : Int) = z.toInt := by
  rw [IntKind.wrap_i64, BitVec.toInt_eq_toNat_cond]
  have := z.isLt
  split <;> omega
theorem bits_and (x y : Int) : bits .and .i64 x y = (bv x &&& bv y).toInt := wrap_toInt _
theorem bits_or (x y : Int) : bits .or .i64 x y = (bv x ||| bv y).toInt := wrap_toInt _
theorem bits_xor (x y : Int) : bits .xor .i64 x y = (bv x ^^^ bv y).toInt := wrap_toInt _
theorem bits_andNot (x y : Int) : bits .andNot .i64 x y = (bv x &&& ~~~ bv y).toInt := wrap_toInt _
theorem bv_toInt (z : BitVec 64) : bv z.toInt = z := BitVec.ofInt_toInt
theorem toInt_bv {x : Int} (h : I64 x) : (bv x).toInt = x := by
  unfold I64 at h
  rw [BitVec.toInt_ofInt, Int.bmod_def]
  split <;> omega
theorem toInt_eq {x : Int} (h : I64 x) (z : BitVec 64) : z.toInt = x ↔ z = bv x := by
  rw [← BitVec.toInt_inj, toInt_bv h]
theorem toInt_zero (z : BitVec 64) : z.toInt = 0 ↔ z = 0#64 := by
  have : (0 : Int) = (0#64).toInt := rfl
  rw [this, BitVec.toInt_inj]
theorem bv_iff {a b : BitVec 64} : a = b ↔ ∀ i, i < 64 → a.getLsbD i = b.getLsbD i :=
  ⟨fun h => by simp [h], fun h => BitVec.eq_of_getLsbD_eq h⟩

theorem and_self_iff (v m : Int) (hv : I64 v) : (bits .and .i64 v m == v) = (bits .andNot .i64 v m == 0) := by
  rw [Bool.eq_iff_iff, beq_iff_eq, beq_iff_eq, bits_and, bits_andNot, toInt_eq hv, toInt_zero, bv_iff, bv_iff]
  refine forall_congr' fun i => forall_congr' fun hi => ?_
  simp only [BitVec.getLsbD_and, BitVec.getLsbD_not, BitVec.getLsbD_zero, hi, decide_true, Bool.true_and]
  cases (bv v).getLsbD i <;> cases (bv m).getLsbD i <;> simp
theorem meet_iff (x y m n : Int) :
    (bits .and .i64 x (bits .and .i64 m n) == bits .and .i64 y (bits .and .i64 m n)) = (bits .and .i64 (bits .and .i64 (bits .xor .i64 x y) m) n == 0) := by
  rw [Bool.eq_iff_iff, beq_iff_eq, beq_iff_eq]
  simp only [bits_and, bits_xor, bv_toInt]
  rw [toInt_zero, BitVec.toInt_inj, bv_iff, bv_iff]
  refine forall_congr' fun i => forall_congr' fun hi => ?_
  simp only [BitVec.getLsbD_and, BitVec.getLsbD_xor, BitVec.getLsbD_zero]
  cases (bv x).getLsbD i <;> cases (bv y).getLsbD i <;> cases (bv m).getLsbD i <;> cases (bv n).getLsbD i <;> simp
theorem in_iff (xm xv ym yv : Int) (h1 : I64 ym) (h2 : I64 yv) (hy : (bits .andNot .i64 yv ym == 0) = true) :
    ((bits .and .i64 xm ym == ym) && (bits .and .i64 xv (bits .and .i64 xm ym) == bits .and .i64 yv (bits .and .i64 xm ym))) =
    ((bits .andNot .i64 ym xm == 0) && (bits .and .i64 xv ym == yv)) := by
  rw [beq_iff_eq, bits_andNot, toInt_zero, bv_iff] at hy
  rw [Bool.eq_iff_iff, Bool.and_eq_true, Bool.and_eq_true, beq_iff_eq, beq_iff_eq, beq_iff_eq, beq_iff_eq]
  simp only [bits_and, bits_andNot, bv_toInt]
  rw [toInt_eq h1, toInt_eq h2, toInt_zero, BitVec.toInt_inj]
  simp only [bv_iff]
  constructor
  · rintro ⟨ha, hb⟩
    refine ⟨fun i hi => ?_, fun i hi => ?_⟩ <;>
    · have e1 := ha i hi; have e2 := hb i hi; have e3 := hy i hi
      simp only [BitVec.getLsbD_and, BitVec.getLsbD_not, BitVec.getLsbD_zero, hi, decide_true, Bool.true_and] at *
      revert e1 e2 e3
      cases (bv xm).getLsbD i <;> cases (bv xv).getLsbD i <;> cases (bv ym).getLsbD i <;> cases (bv yv).getLsbD i <;> simp
  · rintro ⟨ha, hb⟩
    refine ⟨fun i hi => ?_, fun i hi => ?_⟩ <;>
    · have e1 := ha i hi; have e2 := hb i hi; have e3 := hy i hi
      simp only [BitVec.getLsbD_and, BitVec.getLsbD_not, BitVec.getLsbD_zero, hi, decide_true, Bool.true_and] at *
      revert e1 e2 e3
      cases (bv xm).getLsbD i <;> cases (bv xv).getLsbD i <;> cases (bv ym).getLsbD i <;> cases (bv yv).getLsbD i <;> simp
theorem i64_of_wf {x : Int} (h : (Lit.int .i64 x).wf = true) : I64 x := by
  have h' : IntKind.i64.min ≤ x ∧ x ≤ IntKind.i64.max := by simpa [Lit.wf] using h
  exact ⟨h'.1, h'.2⟩
theorem i64_in {x a b : Int} (h : inR x a b = true) (ha : I64 a) (hb : I64 b) : I64 x := by
  rw [inR_iff] at h; unfold I64 at *; omega
theorem or_add (x y : Int) (k : Nat) (hk : k < 40) (h0 : 0 ≤ x) (h1 : x < 2 ^ k) (hy0 : 0 ≤ y) (hy : y < 256) : bits .or .i64 x (y * 2 ^ k) = x + y * 2 ^ k := by
  obtain ⟨a, rfl⟩ := Int.eq_ofNat_of_zero_le h0
  obtain ⟨b, rfl⟩ := Int.eq_ofNat_of_zero_le hy0
  have hp : (2 : Nat) ^ k ≤ 2 ^ 40 := Nat.pow_le_pow_right (by omega) (by omega)
  have hpos : 0 < (2 : Nat) ^ k := Nat.pow_pos (by omega)
  have ha : a < 2 ^ k := by exact_mod_cast h1
  have e1 : ((b : Int) * 2 ^ k) = ((b * 2 ^ k : Nat) : Int) := by push_cast; rfl
  have hb : b < 256 := by omega
  have hlt : b * 2 ^ k ≤ 255 * 2 ^ 40 := Nat.mul_le_mul (by omega) hp
  rw [e1]
  show IntKind.i64.wrap ((BitVec.ofInt 64 (a : Int) ||| BitVec.ofInt 64 ((b * 2 ^ k : Nat) : Int)).toNat : Int) = _
  have o1 : (BitVec.ofInt 64 (a : Int)).toNat = a := by
    rw [BitVec.ofInt_natCast, BitVec.toNat_ofNat]; exact Nat.mod_eq_of_lt (by omega)
  have o2 : (BitVec.ofInt 64 ((b * 2 ^ k : Nat) : Int)).toNat = b * 2 ^ k := by
    rw [BitVec.ofInt_natCast, BitVec.toNat_ofNat]; exact Nat.mod_eq_of_lt (by omega)
  have o3 : a ||| b * 2 ^ k = b * 2 ^ k + a := by
    rw [Nat.or_comm, Nat.mul_comm, ← Nat.two_pow_add_eq_or_of_lt ha]
  rw [BitVec.toNat_or, o1, o2, o3, IntKind.wrap_i64]
  have : (a : Int) < 1099511627776 := by
    have : a < 2 ^ 40 := by omega
    omega
  omega
theorem w64_byte' (b : UInt8) : wrap64 (b.toNat : Int) = b.toNat := by
  have := b.toNat_lt
  exact IntWalk.wrap64_in _ ⟨by omega, by omega⟩
theorem orHL (b1 b0 : UInt8) : bits .or .i64 (wrap64 (wrap64 (b1.toNat : Int) * 256)) (wrap64 (b0.toNat : Int)) = 256 * b1.toNat + b0.toNat := by
  have h1 := b1.toNat_lt
  have h0 := b0.toNat_lt
  rw [w64_byte', w64_byte', IntWalk.wrap64_in ((b1.toNat : Int) * 256) ⟨by omega, by omega⟩]
  have := or_add b0.toNat b1.toNat 8 (by omega) (by omega) (by omega) (by omega) (by omega)
  simp only [show (2 : Int) ^ 8 = 256 from rfl] at this
  rw [bits_or, BitVec.or_comm, ← bits_or, this]
  omega
theorem orHL2 (b1 b0 : UInt8) : bits .or .i64 ((b1.toNat : Int) * 256) (b0.toNat : Int) = 256 * b1.toNat + b0.toNat := by
  have h1 := b1.toNat_lt
  have := orHL b1 b0
  rwa [w64_byte', w64_byte', IntWalk.wrap64_in ((b1.toNat : Int) * 256) ⟨by omega, by omega⟩] at this
theorem and_ffff (x : Int) (h0 : 0 ≤ x) (h1 : x < 4611686018427387904) : bits .and .i64 x 65535 = x % 65536 :=
  bits_mask .i64 62 (by decide) (fun n h0 h1 => by rw [IntKind.wrap_i64]; omega) 16 (by decide) x h0 (by omega)
end Go.Proofs.YtnamgkiealfffaaDoor
