/- Contracts of functions on strings: number data read, the first byte apart. -/
import Derived.Test.YtapmppnclgjpdaaNum
import Derived.Test.YtapmppnclgjpdaaBits
namespace Go.Proofs.Ytapmppnclgjpdaa
open Go.RowKit
set_option maxHeartbeats 400000
set_option linter.unusedSimpArgs false
set_option linter.unusedVariables false

theorem four_bytes (s : ByteArray) (h : s.size = 4) : ∃ b0 b1 b2 b3 : UInt8, s = ⟨#[b0, b1, b2, b3]⟩ := by
  obtain ⟨⟨l⟩⟩ := s
  match l, h with
  | [b0, b1, b2, b3], _ => exact ⟨b0, b1, b2, b3, rfl⟩
theorem w64_byte (b : UInt8) : wrap64 (b.toNat : Int) = b.toNat := by
  have := b.toNat_lt
  exact IntWalk.wrap64_in _ ⟨by omega, by omega⟩
theorem w64_small (x : Int) (h1 : 0 ≤ x) (h2 : x < 4611686018427387904) : wrap64 x = x := IntWalk.wrap64_in _ ⟨by omega, by omega⟩
def rd4 (b0 b1 b2 b3 : UInt8) : Int := b0.toNat + 256 * b1.toNat + 65536 * b2.toNat + 16777216 * b3.toNat
theorem or_add (x y : Int) (k : Nat) (hk : k < 40) (h0 : 0 ≤ x) (h1 : x < 2 ^ k) (hy0 : 0 ≤ y) (hy : y < 256) : bits .or .i64 x (y * 2 ^ k) = x + y * 2 ^ k := by
  obtain ⟨a, rfl⟩ := Int.eq_ofNat_of_zero_le h0
  obtain ⟨b, rfl⟩ := Int.eq_ofNat_of_zero_le hy0
  have hp : (2 : Nat) ^ k ≤ 2 ^ 40 := Nat.pow_le_pow_right (by omega) (by omega)
  have hpos : 0 < (2 : Nat) ^ k := Nat.pow_pos (by omega)
  have ha : a < 2 ^ k := by exact_mod_cast h1
  have e1 : ((b : Int) * 2 ^ k) = ((b * 2 ^ k : Nat) : Int) := by push_cast; rfl
  have hb : b < 256 := by omega
  have hlt : b * 2 ^ k ≤ 255 * 2 ^ 40 := Nat.mul_le_mul (by omega) hp
  rw [e1]
  show IntKind.i64.wrap ((BitVec.ofInt 64 (a : Int) ||| BitVec.ofInt 64 ((b * 2 ^ k : Nat) : Int)).toNat : Int) = _
  have o1 : (BitVec.ofInt 64 (a : Int)).toNat = a := by
    rw [BitVec.ofInt_natCast, BitVec.toNat_ofNat]; exact Nat.mod_eq_of_lt (by omega)
  have o2 : (BitVec.ofInt 64 ((b * 2 ^ k : Nat) : Int)).toNat = b * 2 ^ k := by
    rw [BitVec.ofInt_natCast, BitVec.toNat_ofNat]; exact Nat.mod_eq_of_lt (by omega)
  have o3 : a ||| b * 2 ^ k = b * 2 ^ k + a := by
    rw [Nat.or_comm, Nat.mul_comm, ← Nat.two_pow_add_eq_or_of_lt ha]
  rw [BitVec.toNat_or, o1, o2, o3, IntKind.wrap_i64]
  have : (a : Int) < 1099511627776 := by
    have : a < 2 ^ 40 := by omega
    omega
  omega
theorem or4 (b0 b1 b2 b3 : UInt8) : bits .or .i64 (bits .or .i64 (bits .or .i64 (wrap64 (b0.toNat : Int)) (wrap64 (wrap64 (b1.toNat : Int) * 256))) (wrap64 (wrap64 (b2.toNat : Int) * 65536))) (wrap64 (wrap64 (b3.toNat : Int) * 16777216)) = rd4 b0 b1 b2 b3 := by
  have h0 := b0.toNat_lt
  have h1 := b1.toNat_lt
  have h2 := b2.toNat_lt
  have h3 := b3.toNat_lt
  simp only [w64_byte]
  rw [w64_small ((b1.toNat : Int) * 256) (by omega) (by omega), w64_small ((b2.toNat : Int) * 65536) (by omega) (by omega), w64_small ((b3.toNat : Int) * 16777216) (by omega) (by omega)]
  have e1 := or_add b0.toNat b1.toNat 8 (by omega) (by omega) (by omega) (by omega) (by omega)
  have e2 := or_add (b0.toNat + b1.toNat * 256) b2.toNat 16 (by omega) (by omega) (by omega) (by omega) (by omega)
  have e3 := or_add (b0.toNat + b1.toNat * 256 + b2.toNat * 65536) b3.toNat 24 (by omega) (by omega) (by omega) (by omega) (by omega)
  simp only [show (2 : Int) ^ 8 = 256 from rfl, show (2 : Int) ^ 16 = 65536 from rfl, show (2 : Int) ^ 24 = 16777216 from rfl] at e1 e2 e3
  rw [e1, e2, e3]
  unfold rd4
  omega
def rdV (s : ByteArray) : Int := match s.data.toList with
  | [b0, b1, b2, b3] => if rd4 b0 b1 b2 b3 ≤ 1000000000 then rd4 b0 b1 b2 b3 else 0
  | _ => 0
def rdB (s : ByteArray) : Bool := match s.data.toList with
  | [b0, b1, b2, b3] => decide (rd4 b0 b1 b2 b3 ≤ 1000000000)
  | _ => false
theorem rd_not {s : ByteArray} (h : s.size ≠ 4) : rdV s = 0 ∧ rdB s = false := by
  obtain ⟨⟨l⟩⟩ := s
  have hl : l.length ≠ 4 := h
  unfold rdV rdB
  constructor <;> (split <;> simp_all)
theorem rd4_bd (b0 b1 b2 b3 : UInt8) : 0 ≤ rd4 b0 b1 b2 b3 ∧ rd4 b0 b1 b2 b3 < 4294967296 := by
  have h0 := b0.toNat_lt
  have h1 := b1.toNat_lt
  have h2 := b2.toNat_lt
  have h3 := b3.toNat_lt
  unfold rd4
  omega

theorem rd_is (b0 b1 b2 b3 : UInt8) (h : rd4 b0 b1 b2 b3 ≤ 1000000000) : rdV ⟨#[b0, b1, b2, b3]⟩ = rd4 b0 b1 b2 b3 ∧ rdB ⟨#[b0, b1, b2, b3]⟩ = true := by simp [rdV, rdB, h]
theorem rd_no (b0 b1 b2 b3 : UInt8) (h : ¬ rd4 b0 b1 b2 b3 ≤ 1000000000) : rdV ⟨#[b0, b1, b2, b3]⟩ = 0 ∧ rdB ⟨#[b0, b1, b2, b3]⟩ = false := by simp [rdV, rdB, h]
theorem impl_ReadData_any (s : ByteArray) (w : World) (hs : s.size ≤ 1048576) :
    Calls Try.prog 17 #[.string s] w fun e w' => e = .returned (.tuple #[.int .i64 (rdV s), .bool (rdB s)]) ∧ Ext w w' := by
  by_cases h4 : s.size = 4
  · obtain ⟨b0, b1, b2, b3, rfl⟩ := four_bytes s h4
    clear h4 hs
    have ho := or4
    have g0 : (⟨#[b0, b1, b2, b3]⟩ : ByteArray)[0]'(by show 0 < 4; omega) = b0 := rfl
    have g1 : (⟨#[b0, b1, b2, b3]⟩ : ByteArray)[1]'(by show 1 < 4; omega) = b1 := rfl
    have g2 : (⟨#[b0, b1, b2, b3]⟩ : ByteArray)[2]'(by show 2 < 4; omega) = b2 := rfl
    have g3 : (⟨#[b0, b1, b2, b3]⟩ : ByteArray)[3]'(by show 3 < 4; omega) = b3 := rfl
    go_enter Try.func17, Try.ntmps17
    go_wp2
    (go_wp2_with fail; refine wp_region_ext (by kernel_rfl) (by kernel_rfl) ?_; (repeat (first | go_big_quiet_step (fail) | quiet_step (fail))); refine wpQuiet_nil ?_; intro wq hbq; (try (replace hbq := Ext.trans (by assumption) hbq)); have hcq := Ext.cells hbq; have hsq := Ext.lts hbq)
    clear ho g0 g1 g2 g3
    go_wp2
    · go_ret2
      exact ⟨by rw [(rd_no b0 b1 b2 b3 (by omega)).1, (rd_no b0 b1 b2 b3 (by omega)).2]; rfl, by assumption⟩
    · go_ret2
      exact ⟨by rw [(rd_is b0 b1 b2 b3 (by omega)).1, (rd_is b0 b1 b2 b3 (by omega)).2]; rfl, by assumption⟩
  · have hv := rd_not h4
    have hi : ((s.size : Int) != 4) = true := by rw [bne_iff_ne]; omega
    go_enter Try.func17, Try.ntmps17
    go_wp2
    go_ret2
    exact ⟨by rw [hv.1, hv.2]; rfl, Ext.refl _⟩

theorem tvRead_0 (b0 b1 b2 b3 : UInt8) (w : World) :
    Calls Try.prog 37 #[.string ⟨#[b0, b1, b2, b3]⟩, .int .i64 0] w fun e w' => e = .returned (.int .i64 (b0.toNat + 256 * b1.toNat)) ∧ Ext w w' := by
  have g0 : (⟨#[b0, b1, b2, b3]⟩ : ByteArray)[0]'(by show 0 < 4; omega) = b0 := rfl
  have g1 : (⟨#[b0, b1, b2, b3]⟩ : ByteArray)[1]'(by show 1 < 4; omega) = b1 := rfl
  have g2 : (⟨#[b0, b1, b2, b3]⟩ : ByteArray)[2]'(by show 2 < 4; omega) = b2 := rfl
  have g3 : (⟨#[b0, b1, b2, b3]⟩ : ByteArray)[3]'(by show 3 < 4; omega) = b3 := rfl
  have hw := w64_byte
  have h0 := b0.toNat_lt
  have h1 := b1.toNat_lt
  have e1 := w64_small (256 * (b1.toNat : Int)) (by omega) (by omega)
  have e2 := w64_small ((b0.toNat : Int) + 256 * (b1.toNat : Int)) (by omega) (by omega)
  go_enter Try.func37, Try.ntmps37
  go_wp2
  (go_wp2_with fail; refine wp_region_ext (by kernel_rfl) (by kernel_rfl) ?_; (repeat (first | go_big_quiet_step (fail) | quiet_step (fail))); refine wpQuiet_nil ?_; intro wq hbq; (try (replace hbq := Ext.trans (by assumption) hbq)); have hcq := Ext.cells hbq; have hsq := Ext.lts hbq)
  go_wp2
  go_ret
  exact ⟨rfl, by assumption⟩

theorem tvRead_2 (b0 b1 b2 b3 : UInt8) (w : World) :
    Calls Try.prog 37 #[.string ⟨#[b0, b1, b2, b3]⟩, .int .i64 2] w fun e w' => e = .returned (.int .i64 (b2.toNat + 256 * b3.toNat)) ∧ Ext w w' := by
  have g0 : (⟨#[b0, b1, b2, b3]⟩ : ByteArray)[0]'(by show 0 < 4; omega) = b0 := rfl
  have g1 : (⟨#[b0, b1, b2, b3]⟩ : ByteArray)[1]'(by show 1 < 4; omega) = b1 := rfl
  have g2 : (⟨#[b0, b1, b2, b3]⟩ : ByteArray)[2]'(by show 2 < 4; omega) = b2 := rfl
  have g3 : (⟨#[b0, b1, b2, b3]⟩ : ByteArray)[3]'(by show 3 < 4; omega) = b3 := rfl
  have hw := w64_byte
  have h0 := b2.toNat_lt
  have h1 := b3.toNat_lt
  have e1 := w64_small (256 * (b3.toNat : Int)) (by omega) (by omega)
  have e2 := w64_small ((b2.toNat : Int) + 256 * (b3.toNat : Int)) (by omega) (by omega)
  go_enter Try.func37, Try.ntmps37
  go_wp2
  (go_wp2_with fail; refine wp_region_ext (by kernel_rfl) (by kernel_rfl) ?_; (repeat (first | go_big_quiet_step (fail) | quiet_step (fail))); refine wpQuiet_nil ?_; intro wq hbq; (try (replace hbq := Ext.trans (by assumption) hbq)); have hcq := Ext.cells hbq; have hsq := Ext.lts hbq)
  go_wp2
  go_ret
  exact ⟨rfl, by assumption⟩

def rd2 (b0 b1 b2 b3 : UInt8) (at_ : Int) : Int := if at_ = 0 then b0.toNat + 256 * b1.toNat else b2.toNat + 256 * b3.toNat
theorem spec_tvRead_any (b0 b1 b2 b3 : UInt8) (a : Int) (w : World) (h : a = 0 ∨ a = 2) :
    Calls Try.prog 37 #[.string ⟨#[b0, b1, b2, b3]⟩, .int .i64 a] w fun e w' => e = .returned (.int .i64 (rd2 b0 b1 b2 b3 a)) ∧ Ext w w' := by
  rcases h with rfl | rfl
  · exact tvRead_0 b0 b1 b2 b3 w
  · exact tvRead_2 b0 b1 b2 b3 w
def enR (s : ByteArray) : Int := if rdB s then rdV s else -1
theorem spec_enRead_any (s : ByteArray) (w : World) (hs : s.size ≤ 1048576) :
    Calls Try.prog 29 #[.string s] w fun e w' => e = .returned (.int .i64 (enR s)) ∧ Ext w w' := by
  by_cases h4 : s.size = 4
  · obtain ⟨b0, b1, b2, b3, rfl⟩ := four_bytes s h4
    clear h4 hs
    have hd := rd4_bd b0 b1 b2 b3
    have q0 : rd2 b0 b1 b2 b3 0 = b0.toNat + 256 * b1.toNat := rfl
    have q2 : rd2 b0 b1 b2 b3 2 = b2.toNat + 256 * b3.toNat := rfl
    have e1 : wrap64 (65536 * ((b2.toNat : Int) + 256 * b3.toNat)) = 65536 * ((b2.toNat : Int) + 256 * b3.toNat) := w64_small _ (by omega) (by unfold rd4 at hd; omega)
    have e2 : wrap64 ((b0.toNat : Int) + 256 * b1.toNat + 65536 * ((b2.toNat : Int) + 256 * b3.toNat)) = rd4 b0 b1 b2 b3 := by
      rw [w64_small _ (by omega) (by unfold rd4 at hd; omega)]; unfold rd4; omega
    have HD := Lib.hid hd
    clear hd
    go_enter Try.func29, Try.ntmps29
    go_wp2_with (first | (go_at_call 37; refine (spec_tvRead_any _ _ _ _ _ _ (by first | exact .inl rfl | exact .inr rfl)).mono ?_; rintro e w' ⟨rfl, hb⟩) | (go_at_call 23; refine (spec_nuValue_any _ _ ).mono ?_; rintro e w' ⟨rfl, rfl⟩))
    · go_ret
      have h : inR (rd4 b0 b1 b2 b3) 0 1000000000 = false := by simpa using ‹(!inR (rd4 b0 b1 b2 b3) 0 1000000000) = true›
      have hd := HD.out
      rw [inR_not] at h
      refine ⟨by simp [enR, (rd_no b0 b1 b2 b3 (by omega)).2], ?_⟩
      (repeat (first | exact Ext.refl _ | assumption | apply Ext.alloc | apply Ext.drew | apply Ext.drewN | (refine Ext.trans ?_ (by assumption))))
    · go_ret
      have h : inR (rd4 b0 b1 b2 b3) 0 1000000000 = true := by simpa using ‹(!inR (rd4 b0 b1 b2 b3) 0 1000000000) = false›
      rw [inR_iff] at h
      refine ⟨by simp [enR, (rd_is b0 b1 b2 b3 h.2).1, (rd_is b0 b1 b2 b3 h.2).2], ?_⟩
      (repeat (first | exact Ext.refl _ | assumption | apply Ext.alloc | apply Ext.drew | apply Ext.drewN | (refine Ext.trans ?_ (by assumption))))
  · have hv := rd_not h4
    have hi : ((s.size : Int) != 4) = true := by rw [bne_iff_ne]; omega
    go_enter Try.func29, Try.ntmps29
    go_wp2
    go_ret
    exact ⟨by simp [enR, hv.2], Ext.refl _⟩

theorem rdV_pos (s : ByteArray) : 0 ≤ rdV s := by
  unfold rdV
  split
  · rename_i b0 b1 b2 b3 _
    have := (rd4_bd b0 b1 b2 b3).1
    split <;> omega
  · omega
theorem rdV_of_no (s : ByteArray) (h : rdB s = false) : rdV s = 0 := by
  unfold rdV rdB at *
  split at h
  · simp at h
    rw [if_neg (by omega)]
  · rfl
theorem spec_ReadData_any (s : ByteArray) (w : World) (hs : s.size ≤ 1048576) :
    Calls Try.prog 16 #[.string s] w fun e w' => e = .returned (.tuple #[.int .i64 (rdV s), .bool (rdB s)]) ∧ Ext w w' := by
  by_cases h : rdB s = true
  · have he : enR s = rdV s := by simp [enR, h]
    have hp := rdV_pos s
    go_enter Try.func16, Try.ntmps16
    go_wp2_with (first | (go_at_call 29; refine (spec_enRead_any _ _ hs).mono ?_; rintro e w' ⟨rfl, hb⟩))
    go_ret2
    refine ⟨by rw [h]; rfl, ?_⟩
    (repeat (first | exact Ext.refl _ | assumption | apply Ext.alloc | apply Ext.drew | apply Ext.drewN | (refine Ext.trans ?_ (by assumption))))
  · have h : rdB s = false := by simpa using h
    have he : enR s = -1 := by simp [enR, h]
    have hz := rdV_of_no s h
    go_enter Try.func16, Try.ntmps16
    go_wp2_with (first | (go_at_call 29; refine (spec_enRead_any _ _ hs).mono ?_; rintro e w' ⟨rfl, hb⟩))
    go_ret2
    refine ⟨by rw [h, hz]; rfl, ?_⟩
    (repeat (first | exact Ext.refl _ | assumption | apply Ext.alloc | apply Ext.drew | apply Ext.drewN | (refine Ext.trans ?_ (by assumption))))

def lcp : List UInt8 → List UInt8 → Nat
  | x :: xs, y :: ys => if x = y then lcp xs ys + 1 else 0
  | _, _ => 0
theorem lcp_step (a b : ByteArray) (k : Nat) (h1 : k < a.size) (h2 : k < b.size) :
    lcp (a.data.toList.drop k) (b.data.toList.drop k) = if a[k] = b[k] then lcp (a.data.toList.drop (k + 1)) (b.data.toList.drop (k + 1)) + 1 else 0 := by
  have e1 : a.data.toList.drop k = a[k] :: a.data.toList.drop (k + 1) := List.drop_eq_getElem_cons (by simpa using h1)
  have e2 : b.data.toList.drop k = b[k] :: b.data.toList.drop (k + 1) := List.drop_eq_getElem_cons (by simpa using h2)
  rw [e1, e2]
  rfl
theorem lcp_end (a b : ByteArray) (k : Nat) (h : a.size ≤ k ∨ b.size ≤ k) : lcp (a.data.toList.drop k) (b.data.toList.drop k) = 0 := by
  rcases h with h | h
  · have e : a.data.toList.drop k = [] := List.drop_eq_nil_of_le (by simpa using h)
    rw [e]; unfold lcp; rfl
  · have e : b.data.toList.drop k = [] := List.drop_eq_nil_of_le (by simpa using h)
    rw [e]; unfold lcp; split <;> simp_all
def fbB (a b : ByteArray) : Bool := decide (a.size ≤ 6000) && decide (b.size ≤ 6000) && !(a.toList == b.toList)
def fbV (a b : ByteArray) : Int := if fbB a b then lcp a.data.toList b.data.toList else 0
theorem spec_FirstByteApart_any (a b : ByteArray) (w : World) (ha : a.size ≤ 1048576) (hb : b.size ≤ 1048576) :
    Calls Try.prog 11 #[.string a, .string b] w fun e w' => e = .returned (.tuple #[.int .i64 (fbV a b), .bool (fbB a b)]) ∧ Ext w w' := by
  by_cases hf : fbB a b = true
  · have hv : fbV a b = lcp a.data.toList b.data.toList := by simp [fbV, hf]
    have hf' := hf
    simp only [fbB, Bool.and_eq_true, decide_eq_true_eq, Bool.not_eq_true'] at hf
    obtain ⟨⟨h1, h2⟩, h3⟩ := hf
    have HV := Lib.hid hv
    have HF := Lib.hid hf'
    clear hv hf'
    go_enter Try.func11, Try.ntmps11
    go_wp2
    go_loopw [6] (fun t wr => ∃ k : Nat, k ≤ a.size ∧ k ≤ b.size ∧ t = .int .i64 k ∧ Hid (lcp a.data.toList b.data.toList = k + lcp (a.data.toList.drop k) (b.data.toList.drop k)) ∧ Ext w wr) (fun t _ => a.size - (intOf t).toNat)
    case atStart => exact ⟨0, Nat.zero_le _, Nat.zero_le _, rfl, by show _ = _; simp, Ext.refl _⟩
    case round =>
      obtain ⟨k, hk1, hk2, rfl, hl, hx⟩ := hrel
      by_cases c : (k < a.size ∧ k < b.size)
      · obtain ⟨c1, c2⟩ := c
        have hst := Lib.hid (lcp_step a b k c1 c2)
        by_cases c3 : a[k] = b[k]
        · have c3' : (((a[k].toNat : Nat) : Int) == ((b[k].toNat : Nat) : Int)) = true := by simp [c3]
          have HC := Lib.hid c3
          clear c3
          (go_wp2_with fail; refine wp_region_ext (by kernel_rfl) (by kernel_rfl) ?_; (repeat (first | go_big_quiet_step (fail) | quiet_step (fail))); refine wpQuiet_nil ?_; intro wq hbq; (try (replace hbq := Ext.trans (by assumption) hbq)); have hcq := Ext.cells hbq; have hsq := Ext.lts hbq)
          go_wp2
          go_roundw
          case rel => exact ⟨k + 1, by omega, by omega, by go_num, by have := hl.out; rw [hst.out, if_pos HC.out] at this; show _ = _; omega, by assumption⟩
          case measure => simp [intOf]; omega
        · have c3' : (((a[k].toNat : Nat) : Int) == ((b[k].toNat : Nat) : Int)) = false := by
            rw [beq_eq_false_iff_ne]; intro h; exact c3 (UInt8.toNat_inj.1 (by omega))
          have HC := Lib.hid c3
          clear c3
          (go_wp2_with fail; refine wp_region_ext (by kernel_rfl) (by kernel_rfl) ?_; (repeat (first | go_big_quiet_step (fail) | quiet_step (fail))); refine wpQuiet_nil ?_; intro wq hbq; (try (replace hbq := Ext.trans (by assumption) hbq)); have hcq := Ext.cells hbq; have hsq := Ext.lts hbq)
          go_wp2
          go_ret2
          refine ⟨?_, by assumption⟩
          rw [HV.out, HF.out, hl.out, hst.out, if_neg HC.out]
          rfl
      · have he := Lib.hid (lcp_end a b k (by omega))
        by_cases c1 : k < a.size
        · have c2 : decide (k < b.size) = false := by simp; omega
          clear c
          (go_wp2_with fail; refine wp_region_ext (by kernel_rfl) (by kernel_rfl) ?_; (repeat (first | go_big_quiet_step (fail) | quiet_step (fail))); refine wpQuiet_nil ?_; intro wq hbq; (try (replace hbq := Ext.trans (by assumption) hbq)); have hcq := Ext.cells hbq; have hsq := Ext.lts hbq)
          go_wp2
          go_ret2
          refine ⟨?_, by assumption⟩
          rw [HV.out, HF.out, hl.out, he.out]
          rfl
        · have c2 : decide (k < a.size) = false := by simp; omega
          clear c
          (go_wp2_with fail; refine wp_region_ext (by kernel_rfl) (by kernel_rfl) ?_; (repeat (first | go_big_quiet_step (fail) | quiet_step (fail))); refine wpQuiet_nil ?_; intro wq hbq; (try (replace hbq := Ext.trans (by assumption) hbq)); have hcq := Ext.cells hbq; have hsq := Ext.lts hbq)
          go_wp2
          go_ret2
          refine ⟨?_, by assumption⟩
          rw [HV.out, HF.out, hl.out, he.out]
          rfl
  · replace hf : fbB a b = false := by simpa using hf
    have hv : fbV a b = 0 := by simp [fbV, hf]
    have HV := Lib.hid hv
    have HF := Lib.hid hf
    simp only [fbB, Bool.and_eq_false_iff, decide_eq_false_iff_not, Bool.not_eq_false'] at hf
    clear hv
    rcases hf with (h1 | h2) | h3
    · go_enter Try.func11, Try.ntmps11
      go_wp2
      go_ret2
      exact ⟨by rw [HV.out, HF.out]; rfl, Ext.refl _⟩
    · by_cases h1 : a.size ≤ 6000
      all_goals
        go_enter Try.func11, Try.ntmps11
        go_wp2
        go_ret2
        exact ⟨by rw [HV.out, HF.out]; rfl, Ext.refl _⟩
    · by_cases h1 : a.size ≤ 6000
      · by_cases h2 : b.size ≤ 6000
        all_goals
          go_enter Try.func11, Try.ntmps11
          go_wp2
          go_ret2
          exact ⟨by rw [HV.out, HF.out]; rfl, Ext.refl _⟩
      · go_enter Try.func11, Try.ntmps11
        go_wp2
        go_ret2
        exact ⟨by rw [HV.out, HF.out]; rfl, Ext.refl _⟩
theorem impl_FirstByteApart_any (a b : ByteArray) (w : World) (ha : a.size ≤ 1048576) (hb : b.size ≤ 1048576) :
    Calls Try.prog 12 #[.string a, .string b] w fun e w' => e = .returned (.tuple #[.int .i64 (fbV a b), .bool (fbB a b)]) ∧ Ext w w' := by
  by_cases hf : fbB a b = true
  · have hv : fbV a b = lcp a.data.toList b.data.toList := by simp [fbV, hf]
    have hf' := hf
    simp only [fbB, Bool.and_eq_true, decide_eq_true_eq, Bool.not_eq_true'] at hf
    obtain ⟨⟨h1, h2⟩, h3⟩ := hf
    have HV := Lib.hid hv
    have HF := Lib.hid hf'
    clear hv hf'
    go_enter Try.func12, Try.ntmps12
    go_wp2
    go_loopw [6] (fun t wr => ∃ k : Nat, k ≤ a.size ∧ k ≤ b.size ∧ t = .int .i64 k ∧ Hid (lcp a.data.toList b.data.toList = k + lcp (a.data.toList.drop k) (b.data.toList.drop k)) ∧ Ext w wr) (fun t _ => a.size - (intOf t).toNat)
    case atStart => exact ⟨0, Nat.zero_le _, Nat.zero_le _, rfl, by show _ = _; simp, Ext.refl _⟩
    case round =>
      obtain ⟨k, hk1, hk2, rfl, hl, hx⟩ := hrel
      by_cases c : (k < a.size ∧ k < b.size)
      · obtain ⟨c1, c2⟩ := c
        have hst := Lib.hid (lcp_step a b k c1 c2)
        by_cases c3 : a[k] = b[k]
        · have c3' : (((a[k].toNat : Nat) : Int) == ((b[k].toNat : Nat) : Int)) = true := by simp [c3]
          have HC := Lib.hid c3
          clear c3
          (go_wp2_with fail; refine wp_region_ext (by kernel_rfl) (by kernel_rfl) ?_; (repeat (first | go_big_quiet_step (fail) | quiet_step (fail))); refine wpQuiet_nil ?_; intro wq hbq; (try (replace hbq := Ext.trans (by assumption) hbq)); have hcq := Ext.cells hbq; have hsq := Ext.lts hbq)
          go_wp2
          go_roundw
          case rel => exact ⟨k + 1, by omega, by omega, by go_num, by have := hl.out; rw [hst.out, if_pos HC.out] at this; show _ = _; omega, by assumption⟩
          case measure => simp [intOf]; omega
        · have c3' : (((a[k].toNat : Nat) : Int) == ((b[k].toNat : Nat) : Int)) = false := by
            rw [beq_eq_false_iff_ne]; intro h; exact c3 (UInt8.toNat_inj.1 (by omega))
          have HC := Lib.hid c3
          clear c3
          (go_wp2_with fail; refine wp_region_ext (by kernel_rfl) (by kernel_rfl) ?_; (repeat (first | go_big_quiet_step (fail) | quiet_step (fail))); refine wpQuiet_nil ?_; intro wq hbq; (try (replace hbq := Ext.trans (by assumption) hbq)); have hcq := Ext.cells hbq; have hsq := Ext.lts hbq)
          go_wp2
          go_ret2
          refine ⟨?_, by assumption⟩
          rw [HV.out, HF.out, hl.out, hst.out, if_neg HC.out]
          rfl
      · have he := Lib.hid (lcp_end a b k (by omega))
        by_cases c1 : k < a.size
        · have c2 : decide (k < b.size) = false := by simp; omega
          clear c
          (go_wp2_with fail; refine wp_region_ext (by kernel_rfl) (by kernel_rfl) ?_; (repeat (first | go_big_quiet_step (fail) | quiet_step (fail))); refine wpQuiet_nil ?_; intro wq hbq; (try (replace hbq := Ext.trans (by assumption) hbq)); have hcq := Ext.cells hbq; have hsq := Ext.lts hbq)
          go_wp2
          go_ret2
          refine ⟨?_, by assumption⟩
          rw [HV.out, HF.out, hl.out, he.out]
          rfl
        · have c2 : decide (k < a.size) = false := by simp; omega
          clear c
          (go_wp2_with fail; refine wp_region_ext (by kernel_rfl) (by kernel_rfl) ?_; (repeat (first | go_big_quiet_step (fail) | quiet_step (fail))); refine wpQuiet_nil ?_; intro wq hbq; (try (replace hbq := Ext.trans (by assumption) hbq)); have hcq := Ext.cells hbq; have hsq := Ext.lts hbq)
          go_wp2
          go_ret2
          refine ⟨?_, by assumption⟩
          rw [HV.out, HF.out, hl.out, he.out]
          rfl
  · replace hf : fbB a b = false := by simpa using hf
    have hv : fbV a b = 0 := by simp [fbV, hf]
    have HV := Lib.hid hv
    have HF := Lib.hid hf
    simp only [fbB, Bool.and_eq_false_iff, decide_eq_false_iff_not, Bool.not_eq_false'] at hf
    clear hv
    rcases hf with (h1 | h2) | h3
    · go_enter Try.func12, Try.ntmps12
      go_wp2
      go_ret2
      exact ⟨by rw [HV.out, HF.out]; rfl, Ext.refl _⟩
    · by_cases h1 : a.size ≤ 6000
      all_goals
        go_enter Try.func12, Try.ntmps12
        go_wp2
        go_ret2
        exact ⟨by rw [HV.out, HF.out]; rfl, Ext.refl _⟩
    · by_cases h1 : a.size ≤ 6000
      · by_cases h2 : b.size ≤ 6000
        all_goals
          go_enter Try.func12, Try.ntmps12
          go_wp2
          go_ret2
          exact ⟨by rw [HV.out, HF.out]; rfl, Ext.refl _⟩
      · go_enter Try.func12, Try.ntmps12
        go_wp2
        go_ret2
        exact ⟨by rw [HV.out, HF.out]; rfl, Ext.refl _⟩
end Go.Proofs.Ytapmppnclgjpdaa
