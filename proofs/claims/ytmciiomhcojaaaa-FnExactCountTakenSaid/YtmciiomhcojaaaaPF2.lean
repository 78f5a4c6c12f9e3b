/- More contracts of functions on packets and filters. -/
import Derived.Test.YtmciiomhcojaaaaPF
namespace Go.Proofs.Ytmciiomhcojaaaa
open Go.RowKit
set_option maxHeartbeats 400000
set_option linter.unusedSimpArgs false
set_option linter.unusedVariables false

/-- The field with a number. -/
def fldV (b c d e k : Int) : Int := if k = 0 then b else if k = 1 then c else if k = 2 then d else e
theorem spec_fiField_any (a b c d e f k : Int) (w : World) (h0 : 0 ≤ k) (h3 : k ≤ 3) :
    Calls Try.prog 35 #[pktV a b c d e f, .int .i64 k] w fun en w' => en = .returned (.int .i64 (fldV b c d e k)) ∧ Ext w w' := by
  rcases (by omega : k = 0 ∨ k = 1 ∨ k = 2 ∨ k = 3) with rfl | rfl | rfl | rfl
  all_goals
    go_enter Try.func35, Try.ntmps35
    go_wp2
    go_ret
    exact ⟨rfl, by (repeat (first | (with_reducible exact Ext.refl _) | (with_reducible assumption) | (with_reducible apply Ext.alloc) | (with_reducible apply Ext.drew) | (with_reducible apply Ext.drewN) | ((with_reducible refine Ext.setCell ?_ ?_ _); rotate_left; (focus (first | (simp; done) | (simp; omega) | omega))) | (with_reducible refine Ext.trans ?_ (by assumption))))⟩

theorem ix4_fld (b c d e k : Int) (h0 : 0 ≤ k) (h3 : k ≤ 3) (w : World) : (Instr.index 55 (.agg #[.int .i64 b, .int .i64 c, .int .i64 d, .int .i64 e]) (.int .i64 k)).run Try.prog w = .ok (.int .i64 (fldV b c d e k)) w := by
  rcases (by omega : k = 0 ∨ k = 1 ∨ k = 2 ∨ k = 3) with rfl | rfl | rfl | rfl
  · exact ix4_0 _ _ _ _ w
  · exact ix4_1 _ _ _ _ w
  · exact ix4_2 _ _ _ _ w
  · exact ix4_3 _ _ _ _ w

def fofB (a b c d e f k : Int) : Bool := pktB a b c d e f && inR k 0 3
def fofV (a b c d e f k : Int) : Int := if fofB a b c d e f k then fldV b c d e k else 0
theorem spec_FieldOf_any (a b c d e f k : Int) (w : World) :
    Calls Try.prog 11 #[pktV a b c d e f, .int .i64 k] w fun en w' => en = .returned (.tuple #[.int .i64 (fofV a b c d e f k), .bool (fofB a b c d e f k)]) ∧ Ext w w' := by
  by_cases hk : inR k 0 3 = true
  · have hk' := inR_iff.1 hk
    go_enter Try.func11, Try.ntmps11
    go_wp2_with (first | (go_at_call 33; refine (spec_pkGood_any _ _ _ _ _ _ _ ).mono ?_; rintro e w' ⟨rfl, hb⟩; (try (replace hb := Ext.trans (by assumption) hb)); have hc := Ext.cells hb; have hz := Ext.frozens hb; have hs := Ext.lts hb) | (go_at_call 34; refine (spec_l1In_any _ _ _ _ ).mono ?_; rintro e w' ⟨rfl, rfl⟩) | (go_at_call 35; refine (spec_fiField_any _ _ _ _ _ _ _ _ (by omega) (by omega)).mono ?_; rintro e w' ⟨rfl, hb⟩; (try (replace hb := Ext.trans (by assumption) hb)); have hc := Ext.cells hb; have hz := Ext.frozens hb; have hs := Ext.lts hb))
    all_goals (go_ret2; refine ⟨by ((try simp only [Bool.not_eq_true', Bool.not_eq_false', Bool.not_eq_eq_eq_not, Bool.not_true, Bool.not_false] at *); first | (simp [fofV, fofB, *]; done) | (simp [fofV, fofB, *]; omega) | (simp_all [fofV, fofB]; done)), ?_⟩; (repeat (first | (with_reducible exact Ext.refl _) | (with_reducible assumption) | (with_reducible apply Ext.alloc) | (with_reducible apply Ext.drew) | (with_reducible apply Ext.drewN) | ((with_reducible refine Ext.setCell ?_ ?_ _); rotate_left; (focus (first | (simp; done) | (simp; omega) | omega))) | (with_reducible refine Ext.trans ?_ (by assumption)))))
  · replace hk : inR k 0 3 = false := by simpa using hk
    go_enter Try.func11, Try.ntmps11
    go_wp2_with (first | (go_at_call 33; refine (spec_pkGood_any _ _ _ _ _ _ _ ).mono ?_; rintro e w' ⟨rfl, hb⟩; (try (replace hb := Ext.trans (by assumption) hb)); have hc := Ext.cells hb; have hz := Ext.frozens hb; have hs := Ext.lts hb) | (go_at_call 34; refine (spec_l1In_any _ _ _ _ ).mono ?_; rintro e w' ⟨rfl, rfl⟩))
    all_goals (go_ret2; refine ⟨by ((try simp only [Bool.not_eq_true', Bool.not_eq_false', Bool.not_eq_eq_eq_not, Bool.not_true, Bool.not_false] at *); first | (simp [fofV, fofB, *]; done) | (simp [fofV, fofB, *]; omega) | (simp_all [fofV, fofB]; done)), ?_⟩; (repeat (first | (with_reducible exact Ext.refl _) | (with_reducible assumption) | (with_reducible apply Ext.alloc) | (with_reducible apply Ext.drew) | (with_reducible apply Ext.drewN) | ((with_reducible refine Ext.setCell ?_ ?_ _); rotate_left; (focus (first | (simp; done) | (simp; omega) | omega))) | (with_reducible refine Ext.trans ?_ (by assumption)))))

theorem impl_FieldOf_any (a b c d e f k : Int) (w : World) :
    Calls Try.prog 13 #[pktV a b c d e f, .int .i64 k] w fun en w' => en = .returned (.tuple #[.int .i64 (fofV a b c d e f k), .bool (fofB a b c d e f k)]) ∧ Ext w w' := by
  by_cases hk : inR k 0 3 = true
  · have hk' := inR_iff.1 hk
    obtain ⟨h0, h3⟩ := hk'
    have hix := ix4_fld b c d e k h0 h3
    have HK := Lib.hid hk
    clear hk
    go_enter Try.func13, Try.ntmps13
    go_wp2_with (first | (go_at_call 36; refine (impl_IsPacket_any _ _ _ _ _ _ _ ).mono ?_; rintro e w' ⟨rfl, hb⟩; (try (replace hb := Ext.trans (by assumption) hb)); have hc := Ext.cells hb; have hz := Ext.frozens hb; have hs := Ext.lts hb) | (go_at_call 37; refine (impl_fieldsOf_any _ _ _ _ _ _ _ ).mono ?_; rintro e w' ⟨rfl, hb⟩; (try (replace hb := Ext.trans (by assumption) hb)); have hc := Ext.cells hb; have hz := Ext.frozens hb; have hs := Ext.lts hb))
    all_goals (go_ret2; have hk := HK.out; refine ⟨by ((try simp only [Bool.not_eq_true', Bool.not_eq_false', Bool.not_eq_eq_eq_not, Bool.not_true, Bool.not_false] at *); first | (simp [fofV, fofB, *]; done) | (simp [fofV, fofB, *]; omega) | (simp_all [fofV, fofB]; done)), ?_⟩; (repeat (first | (with_reducible exact Ext.refl _) | (with_reducible assumption) | (with_reducible apply Ext.alloc) | (with_reducible apply Ext.drew) | (with_reducible apply Ext.drewN) | ((with_reducible refine Ext.setCell ?_ ?_ _); rotate_left; (focus (first | (simp; done) | (simp; omega) | omega))) | (with_reducible refine Ext.trans ?_ (by assumption)))))
  · replace hk : inR k 0 3 = false := by simpa using hk
    have HK := Lib.hid hk
    rw [inR_not] at hk
    go_enter Try.func13, Try.ntmps13
    go_wp2_with (first | (go_at_call 36; refine (impl_IsPacket_any _ _ _ _ _ _ _ ).mono ?_; rintro e w' ⟨rfl, hb⟩; (try (replace hb := Ext.trans (by assumption) hb)); have hc := Ext.cells hb; have hz := Ext.frozens hb; have hs := Ext.lts hb) | (go_at_call 37; refine (impl_fieldsOf_any _ _ _ _ _ _ _ ).mono ?_; rintro e w' ⟨rfl, hb⟩; (try (replace hb := Ext.trans (by assumption) hb)); have hc := Ext.cells hb; have hz := Ext.frozens hb; have hs := Ext.lts hb))
    all_goals (go_ret2; replace hk := HK.out; refine ⟨by ((try simp only [Bool.not_eq_true', Bool.not_eq_false', Bool.not_eq_eq_eq_not, Bool.not_true, Bool.not_false] at *); first | (simp [fofV, fofB, *]; done) | (simp [fofV, fofB, *]; omega) | (simp_all [fofV, fofB]; done)), ?_⟩; (repeat (first | (with_reducible exact Ext.refl _) | (with_reducible assumption) | (with_reducible apply Ext.alloc) | (with_reducible apply Ext.drew) | (with_reducible apply Ext.drewN) | ((with_reducible refine Ext.setCell ?_ ?_ _); rotate_left; (focus (first | (simp; done) | (simp; omega) | omega))) | (with_reducible refine Ext.trans ?_ (by assumption)))))

def sfB (a b c d e f a' b' c' d' e' f' : Int) : Bool := pktB a b c d e f && pktB a' b' c' d' e' f'
def sfV (a b c d e f a' b' c' d' e' f' : Int) : Bool := sfB a b c d e f a' b' c' d' e' f' && (b == b') && (c == c') && (d == d')
theorem spec_SameFlow_any (a b c d e f a' b' c' d' e' f' : Int) (w : World) :
    Calls Try.prog 14 #[pktV a b c d e f, pktV a' b' c' d' e' f'] w fun en w' => en = .returned (.tuple #[.bool (sfV a b c d e f a' b' c' d' e' f'), .bool (sfB a b c d e f a' b' c' d' e' f')]) ∧ Ext w w' := by
  go_enter Try.func14, Try.ntmps14
  go_wp2_with (first | (go_at_call 33; refine (spec_pkGood_any _ _ _ _ _ _ _ ).mono ?_; rintro e w' ⟨rfl, hb⟩; (try (replace hb := Ext.trans (by assumption) hb)); have hc := Ext.cells hb; have hz := Ext.frozens hb; have hs := Ext.lts hb))
  all_goals (go_ret2; refine ⟨by ((try simp only [Bool.not_eq_true', Bool.not_eq_false', Bool.not_eq_eq_eq_not, Bool.not_true, Bool.not_false] at *); first | (simp [sfV, sfB, *]; done) | (simp [sfV, sfB, *]; omega) | (simp_all [sfV, sfB]; done)), ?_⟩; (repeat (first | (with_reducible exact Ext.refl _) | (with_reducible assumption) | (with_reducible apply Ext.alloc) | (with_reducible apply Ext.drew) | (with_reducible apply Ext.drewN) | ((with_reducible refine Ext.setCell ?_ ?_ _); rotate_left; (focus (first | (simp; done) | (simp; omega) | omega))) | (with_reducible refine Ext.trans ?_ (by assumption)))))
theorem impl_sameFlow_any (a b c d e f a' b' c' d' e' f' : Int) (w : World) :
    Calls Try.prog 38 #[pktV a b c d e f, pktV a' b' c' d' e' f'] w fun en w' => en = .returned (.bool ((b == b') && (c == c') && (d == d'))) ∧ Ext w w' := by
  go_enter Try.func38, Try.ntmps38
  go_wp2
  all_goals (go_ret; refine ⟨by simp [*], ?_⟩; (repeat (first | (with_reducible exact Ext.refl _) | (with_reducible assumption) | (with_reducible apply Ext.alloc) | (with_reducible apply Ext.drew) | (with_reducible apply Ext.drewN) | ((with_reducible refine Ext.setCell ?_ ?_ _); rotate_left; (focus (first | (simp; done) | (simp; omega) | omega))) | (with_reducible refine Ext.trans ?_ (by assumption)))))
theorem impl_SameFlow_any (a b c d e f a' b' c' d' e' f' : Int) (w : World) :
    Calls Try.prog 15 #[pktV a b c d e f, pktV a' b' c' d' e' f'] w fun en w' => en = .returned (.tuple #[.bool (sfV a b c d e f a' b' c' d' e' f'), .bool (sfB a b c d e f a' b' c' d' e' f')]) ∧ Ext w w' := by
  go_enter Try.func15, Try.ntmps15
  go_wp2_with (first | (go_at_call 36; refine (impl_IsPacket_any _ _ _ _ _ _ _ ).mono ?_; rintro e w' ⟨rfl, hb⟩; (try (replace hb := Ext.trans (by assumption) hb)); have hc := Ext.cells hb; have hz := Ext.frozens hb; have hs := Ext.lts hb) | (go_at_call 38; refine (impl_sameFlow_any _ _ _ _ _ _ _ _ _ _ _ _ _ ).mono ?_; rintro e w' ⟨rfl, hb⟩; (try (replace hb := Ext.trans (by assumption) hb)); have hc := Ext.cells hb; have hz := Ext.frozens hb; have hs := Ext.lts hb))
  all_goals (go_ret2; refine ⟨by ((try simp only [Bool.not_eq_true', Bool.not_eq_false', Bool.not_eq_eq_eq_not, Bool.not_true, Bool.not_false] at *); first | (simp [sfV, sfB, *]; done) | (simp [sfV, sfB, *]; omega) | (simp_all [sfV, sfB]; done)), ?_⟩; (repeat (first | (with_reducible exact Ext.refl _) | (with_reducible assumption) | (with_reducible apply Ext.alloc) | (with_reducible apply Ext.drew) | (with_reducible apply Ext.drewN) | ((with_reducible refine Ext.setCell ?_ ?_ _); rotate_left; (focus (first | (simp; done) | (simp; omega) | omega))) | (with_reducible refine Ext.trans ?_ (by assumption)))))

/-- The flow of a packet. -/
def flowV (b c d k : Int) : Int := ((31 * ((31 * ((31 * 40503 + b + 7) % 1000003) + c + 7) % 1000003) + d + 7) % 1000003) % k
theorem spec_pkFlow_any (a b c d e f k : Int) (w : World) (hb : inR b 0 65535 = true) (hc : inR c 0 65535 = true) (hd : inR d 0 65535 = true) (hk : inR k 1 64 = true) :
    Calls Try.prog 40 #[pktV a b c d e f, .int .i64 k] w fun en w' => en = .returned (.int .i64 (flowV b c d k)) ∧ Ext w w' := by
  rw [inR_iff] at hb hc hd hk
  obtain ⟨b0, b1⟩ := hb
  obtain ⟨c0, c1⟩ := hc
  obtain ⟨d0, d1⟩ := hd
  obtain ⟨k0, k1⟩ := hk
  go_enter Try.func40, Try.ntmps40
  go_wp2
  refine wp_loop_rounds 4 ?_
  rw [rounds_succ]
  go_wp2
  rw [rounds_succ]
  go_wp2
  rw [rounds_succ]
  go_wp2
  rw [rounds_succ]
  go_wp2
  go_ret
  exact ⟨rfl, by (repeat (first | (with_reducible exact Ext.refl _) | (with_reducible assumption) | (with_reducible apply Ext.alloc) | (with_reducible apply Ext.drew) | (with_reducible apply Ext.drewN) | ((with_reducible refine Ext.setCell ?_ ?_ _); rotate_left; (focus (first | (simp; done) | (simp; omega) | omega))) | (with_reducible refine Ext.trans ?_ (by assumption))))⟩
theorem impl_flowOf_any (a b c d e f k : Int) (w : World) (hb : inR b 0 65535 = true) (hc : inR c 0 65535 = true) (hd : inR d 0 65535 = true) (hk : inR k 1 64 = true) :
    Calls Try.prog 42 #[pktV a b c d e f, .int .i64 k] w fun en w' => en = .returned (.int .i64 (flowV b c d k)) ∧ Ext w w' := by
  rw [inR_iff] at hb hc hd hk
  obtain ⟨b0, b1⟩ := hb
  obtain ⟨c0, c1⟩ := hc
  obtain ⟨d0, d1⟩ := hd
  obtain ⟨k0, k1⟩ := hk
  have i0 : ∀ (x0 x1 x2 : Value) w, (Instr.index 64 (.agg #[x0, x1, x2]) (.int .i64 0)).run Try.prog w = .ok x0 w := fun _ _ _ _ => by kernel_rfl
  have i1 : ∀ (x0 x1 x2 : Value) w, (Instr.index 64 (.agg #[x0, x1, x2]) (.int .i64 1)).run Try.prog w = .ok x1 w := fun _ _ _ _ => by kernel_rfl
  have i2 : ∀ (x0 x1 x2 : Value) w, (Instr.index 64 (.agg #[x0, x1, x2]) (.int .i64 2)).run Try.prog w = .ok x2 w := fun _ _ _ _ => by kernel_rfl
  go_enter Try.func42, Try.ntmps42
  go_wp2
  refine wp_loop_rounds 4 ?_
  rw [rounds_succ]
  go_wp2
  rw [rounds_succ]
  go_wp2
  rw [rounds_succ]
  go_wp2
  rw [rounds_succ]
  go_wp2
  go_ret
  exact ⟨rfl, by (repeat (first | (with_reducible exact Ext.refl _) | (with_reducible assumption) | (with_reducible apply Ext.alloc) | (with_reducible apply Ext.drew) | (with_reducible apply Ext.drewN) | ((with_reducible refine Ext.setCell ?_ ?_ _); rotate_left; (focus (first | (simp; done) | (simp; omega) | omega))) | (with_reducible refine Ext.trans ?_ (by assumption))))⟩

theorem spec_pkFlows_any (a : Int) (w : World) :
    Calls Try.prog 39 #[.int .i64 a] w fun e w' => e = .returned (.bool (inR a 1 64)) ∧ w = w' := by
  go_enter Try.func39, Try.ntmps39
  go_wp2_with (go_at_call 34; refine (spec_l1In_any _ _ _ _ ).mono ?_; rintro e w' ⟨rfl, rfl⟩)
  go_ret
  exact ⟨rfl, rfl⟩
theorem impl_isFlows_any (a : Int) (w : World) :
    Calls Try.prog 41 #[.int .i64 a] w fun e w' => e = .returned (.bool (inR a 1 64)) ∧ w = w' := by
  go_enter Try.func41, Try.ntmps41
  go_wp2
  all_goals (go_ret; refine ⟨?_, rfl⟩; first | (simp [inR, *]; done) | (simp [inR, *]; omega))
theorem pktB_parts {a b c d e f : Int} (h : pktB a b c d e f = true) : inR a 1 100000 = true ∧ inR b 0 65535 = true ∧ inR c 0 65535 = true ∧ inR d 0 65535 = true ∧ inR e 0 65535 = true ∧ inR f 1 1500 = true := by
  simp only [pktB, Bool.and_eq_true] at h
  obtain ⟨⟨⟨⟨⟨h1, h2⟩, h3⟩, h4⟩, h5⟩, h6⟩ := h
  exact ⟨h1, h2, h3, h4, h5, h6⟩
def flB (a b c d e f k : Int) : Bool := pktB a b c d e f && inR k 1 64
def flV (a b c d e f k : Int) : Int := if flB a b c d e f k then flowV b c d k else 0
theorem spec_FlowOf_any (a b c d e f k : Int) (w : World) :
    Calls Try.prog 16 #[pktV a b c d e f, .int .i64 k] w fun en w' => en = .returned (.tuple #[.int .i64 (flV a b c d e f k), .bool (flB a b c d e f k)]) ∧ Ext w w' := by
  by_cases hp : pktB a b c d e f = true
  · obtain ⟨_, hb, hc, hd, _, _⟩ := pktB_parts hp
    by_cases hk : inR k 1 64 = true
    · have hq : flB a b c d e f k = true := by simp [flB, hp, hk]
      have hv : flV a b c d e f k = flowV b c d k := by simp [flV, hq]
      have HQ := Lib.hid hq
      have HV := Lib.hid hv
      clear hq hv
      go_enter Try.func16, Try.ntmps16
      go_wp2_with (first | (go_at_call 33; refine (spec_pkGood_any _ _ _ _ _ _ _).mono ?_; rintro e w' ⟨rfl, hb1⟩; have hc1 := Ext.cells hb1; have hs1 := Ext.lts hb1) | (go_at_call 39; refine (spec_pkFlows_any _ _).mono ?_; rintro e w' ⟨rfl, rfl⟩) | (go_at_call 40; refine (spec_pkFlow_any _ _ _ _ _ _ _ _ hb hc hd hk).mono ?_; rintro e w' ⟨rfl, hb2⟩))
      go_ret2
      refine ⟨by rw [HV.out, HQ.out]; rfl, ?_⟩
      (repeat (first | (with_reducible exact Ext.refl _) | (with_reducible assumption) | (with_reducible apply Ext.alloc) | (with_reducible apply Ext.drew) | (with_reducible apply Ext.drewN) | ((with_reducible refine Ext.setCell ?_ ?_ _); rotate_left; (focus (first | (simp; done) | (simp; omega) | omega))) | (with_reducible refine Ext.trans ?_ (by assumption))))
    · replace hk : inR k 1 64 = false := by simpa using hk
      have hq : flB a b c d e f k = false := by simp [flB, hk]
      have hv : flV a b c d e f k = 0 := by simp [flV, hq]
      have HQ := Lib.hid hq
      have HV := Lib.hid hv
      clear hq hv
      go_enter Try.func16, Try.ntmps16
      go_wp2_with (first | (go_at_call 33; refine (spec_pkGood_any _ _ _ _ _ _ _).mono ?_; rintro e w' ⟨rfl, hb1⟩; have hc1 := Ext.cells hb1; have hs1 := Ext.lts hb1) | (go_at_call 39; refine (spec_pkFlows_any _ _).mono ?_; rintro e w' ⟨rfl, rfl⟩))
      go_ret2
      refine ⟨by rw [HV.out, HQ.out]; rfl, ?_⟩
      (repeat (first | (with_reducible exact Ext.refl _) | (with_reducible assumption) | (with_reducible apply Ext.alloc) | (with_reducible apply Ext.drew) | (with_reducible apply Ext.drewN) | ((with_reducible refine Ext.setCell ?_ ?_ _); rotate_left; (focus (first | (simp; done) | (simp; omega) | omega))) | (with_reducible refine Ext.trans ?_ (by assumption))))
  · replace hp : pktB a b c d e f = false := by simpa using hp
    have hq : flB a b c d e f k = false := by simp [flB, hp]
    have hv : flV a b c d e f k = 0 := by simp [flV, hq]
    have HQ := Lib.hid hq
    have HV := Lib.hid hv
    clear hq hv
    go_enter Try.func16, Try.ntmps16
    go_wp2_with (first | (go_at_call 33; refine (spec_pkGood_any _ _ _ _ _ _ _).mono ?_; rintro e w' ⟨rfl, hb1⟩; have hc1 := Ext.cells hb1; have hs1 := Ext.lts hb1))
    go_ret2
    refine ⟨by rw [HV.out, HQ.out]; rfl, ?_⟩
    (repeat (first | (with_reducible exact Ext.refl _) | (with_reducible assumption) | (with_reducible apply Ext.alloc) | (with_reducible apply Ext.drew) | (with_reducible apply Ext.drewN) | ((with_reducible refine Ext.setCell ?_ ?_ _); rotate_left; (focus (first | (simp; done) | (simp; omega) | omega))) | (with_reducible refine Ext.trans ?_ (by assumption))))

theorem impl_FlowOf_any (a b c d e f k : Int) (w : World) :
    Calls Try.prog 17 #[pktV a b c d e f, .int .i64 k] w fun en w' => en = .returned (.tuple #[.int .i64 (flV a b c d e f k), .bool (flB a b c d e f k)]) ∧ Ext w w' := by
  by_cases hp : pktB a b c d e f = true
  · obtain ⟨_, hb, hc, hd, _, _⟩ := pktB_parts hp
    by_cases hk : inR k 1 64 = true
    · have hq : flB a b c d e f k = true := by simp [flB, hp, hk]
      have hv : flV a b c d e f k = flowV b c d k := by simp [flV, hq]
      have HQ := Lib.hid hq
      have HV := Lib.hid hv
      clear hq hv
      go_enter Try.func17, Try.ntmps17
      go_wp2_with (first | (go_at_call 36; refine (impl_IsPacket_any _ _ _ _ _ _ _).mono ?_; rintro e w' ⟨rfl, hb1⟩; have hc1 := Ext.cells hb1; have hs1 := Ext.lts hb1) | (go_at_call 41; refine (impl_isFlows_any _ _).mono ?_; rintro e w' ⟨rfl, rfl⟩) | (go_at_call 42; refine (impl_flowOf_any _ _ _ _ _ _ _ _ hb hc hd hk).mono ?_; rintro e w' ⟨rfl, hb2⟩))
      go_ret2
      refine ⟨by rw [HV.out, HQ.out]; rfl, ?_⟩
      (repeat (first | (with_reducible exact Ext.refl _) | (with_reducible assumption) | (with_reducible apply Ext.alloc) | (with_reducible apply Ext.drew) | (with_reducible apply Ext.drewN) | ((with_reducible refine Ext.setCell ?_ ?_ _); rotate_left; (focus (first | (simp; done) | (simp; omega) | omega))) | (with_reducible refine Ext.trans ?_ (by assumption))))
    · replace hk : inR k 1 64 = false := by simpa using hk
      have hq : flB a b c d e f k = false := by simp [flB, hk]
      have hv : flV a b c d e f k = 0 := by simp [flV, hq]
      have HQ := Lib.hid hq
      have HV := Lib.hid hv
      clear hq hv
      go_enter Try.func17, Try.ntmps17
      go_wp2_with (first | (go_at_call 36; refine (impl_IsPacket_any _ _ _ _ _ _ _).mono ?_; rintro e w' ⟨rfl, hb1⟩; have hc1 := Ext.cells hb1; have hs1 := Ext.lts hb1) | (go_at_call 41; refine (impl_isFlows_any _ _).mono ?_; rintro e w' ⟨rfl, rfl⟩))
      go_ret2
      refine ⟨by rw [HV.out, HQ.out]; rfl, ?_⟩
      (repeat (first | (with_reducible exact Ext.refl _) | (with_reducible assumption) | (with_reducible apply Ext.alloc) | (with_reducible apply Ext.drew) | (with_reducible apply Ext.drewN) | ((with_reducible refine Ext.setCell ?_ ?_ _); rotate_left; (focus (first | (simp; done) | (simp; omega) | omega))) | (with_reducible refine Ext.trans ?_ (by assumption))))
  · replace hp : pktB a b c d e f = false := by simpa using hp
    have hq : flB a b c d e f k = false := by simp [flB, hp]
    have hv : flV a b c d e f k = 0 := by simp [flV, hq]
    have HQ := Lib.hid hq
    have HV := Lib.hid hv
    clear hq hv
    go_enter Try.func17, Try.ntmps17
    go_wp2_with (first | (go_at_call 36; refine (impl_IsPacket_any _ _ _ _ _ _ _).mono ?_; rintro e w' ⟨rfl, hb1⟩; have hc1 := Ext.cells hb1; have hs1 := Ext.lts hb1))
    go_ret2
    refine ⟨by rw [HV.out, HQ.out]; rfl, ?_⟩
    (repeat (first | (with_reducible exact Ext.refl _) | (with_reducible assumption) | (with_reducible apply Ext.alloc) | (with_reducible apply Ext.drew) | (with_reducible apply Ext.drewN) | ((with_reducible refine Ext.setCell ?_ ?_ _); rotate_left; (focus (first | (simp; done) | (simp; omega) | omega))) | (with_reducible refine Ext.trans ?_ (by assumption))))

def tkV (m v k b c d e : Int) : Bool := bits .and .i64 (fldV b c d e k) m == v
theorem spec_fiTakes_any (p k m v t a b c d e f : Int) (w : World) (h0 : 0 ≤ k) (h3 : k ≤ 3) :
    Calls Try.prog 44 #[fltV p k m v t, pktV a b c d e f] w fun en w' => en = .returned (.bool (tkV m v k b c d e)) ∧ Ext w w' := by
  go_enter Try.func44, Try.ntmps44
  (go_wp2_with fail; refine wp_region_ext (by kernel_rfl) (by kernel_rfl) ?_; (repeat (first | go_big_quiet_step ((first | (go_at_call 35; exact calls_later (spec_fiField_any _ _ _ _ _ _ _ _ (by omega) (by omega))))) | quiet_step ((first | (go_at_call 35; exact calls_later (spec_fiField_any _ _ _ _ _ _ _ _ (by omega) (by omega))))))); refine wpQuiet_nil ?_; intro wq hbq; (try (replace hbq := Ext.trans (by assumption) hbq)); have hcq := Ext.cells hbq; have hzq := Ext.frozens hbq; have hsq := Ext.lts hbq)
  go_wp2
  go_ret
  refine ⟨rfl, ?_⟩
  (repeat (first | (with_reducible exact Ext.refl _) | (with_reducible assumption) | (with_reducible apply Ext.alloc) | (with_reducible apply Ext.drew) | (with_reducible apply Ext.drewN) | ((with_reducible refine Ext.setCell ?_ ?_ _); rotate_left; (focus (first | (simp; done) | (simp; omega) | omega))) | (with_reducible refine Ext.trans ?_ (by assumption))))
theorem impl_takes_any (p k m v t a b c d e f : Int) (w : World) (h0 : 0 ≤ k) (h3 : k ≤ 3) :
    Calls Try.prog 46 #[fltV p k m v t, pktV a b c d e f] w fun en w' => en = .returned (.bool (tkV m v k b c d e)) ∧ Ext w w' := by
  have hix := ix4_fld b c d e k h0 h3
  go_enter Try.func46, Try.ntmps46
  (go_wp2_with fail; refine wp_region_ext (by kernel_rfl) (by kernel_rfl) ?_; (repeat (first | go_big_quiet_step ((first | (go_at_call 37; exact calls_later (impl_fieldsOf_any _ _ _ _ _ _ _ )))) | quiet_step ((first | (go_at_call 37; exact calls_later (impl_fieldsOf_any _ _ _ _ _ _ _ )))))); refine wpQuiet_nil ?_; intro wq hbq; (try (replace hbq := Ext.trans (by assumption) hbq)); have hcq := Ext.cells hbq; have hzq := Ext.frozens hbq; have hsq := Ext.lts hbq)
  go_wp2
  go_ret
  refine ⟨rfl, ?_⟩
  (repeat (first | (with_reducible exact Ext.refl _) | (with_reducible assumption) | (with_reducible apply Ext.alloc) | (with_reducible apply Ext.drew) | (with_reducible apply Ext.drewN) | ((with_reducible refine Ext.setCell ?_ ?_ _); rotate_left; (focus (first | (simp; done) | (simp; omega) | omega))) | (with_reducible refine Ext.trans ?_ (by assumption))))
def ftB (k m v a b c d e f : Int) : Bool := fltB k m v && pktB a b c d e f
def ftV (k m v a b c d e f : Int) : Bool := ftB k m v a b c d e f && tkV m v k b c d e
theorem fltB_parts {k m v : Int} (h : fltB k m v = true) : inR k 0 3 = true ∧ inR m 0 65535 = true ∧ inR v 0 65535 = true ∧ (bits .andNot .i64 v m == 0) = true := by
  simp only [fltB, Bool.and_eq_true] at h
  obtain ⟨⟨⟨h1, h2⟩, h3⟩, h4⟩ := h
  exact ⟨h1, h2, h3, h4⟩
theorem spec_FilterTakes_any (p k m v t a b c d e f : Int) (w : World) :
    Calls Try.prog 18 #[fltV p k m v t, pktV a b c d e f] w fun en w' => en = .returned (.tuple #[.bool (ftV k m v a b c d e f), .bool (ftB k m v a b c d e f)]) ∧ Ext w w' := by
  by_cases hp : fltB k m v = true
  · have hk := inR_iff.1 (fltB_parts hp).1
    obtain ⟨h0, h3⟩ := hk
    go_enter Try.func18, Try.ntmps18
    go_wp2_with (first | (go_at_call 43; refine (spec_fiGood_any _ _ _ _ _ _).mono ?_; rintro e w' ⟨rfl, hb⟩; (try (replace hb := Ext.trans (by assumption) hb)); have hc := Ext.cells hb; have hs := Ext.lts hb) | (go_at_call 33; refine (spec_pkGood_any _ _ _ _ _ _ _).mono ?_; rintro e w' ⟨rfl, hb⟩; (try (replace hb := Ext.trans (by assumption) hb)); have hc := Ext.cells hb; have hs := Ext.lts hb) | (go_at_call 44; refine (spec_fiTakes_any _ _ _ _ _ _ _ _ _ _ _ _ h0 h3).mono ?_; rintro e w' ⟨rfl, hb⟩))
    all_goals (go_ret2; refine ⟨by ((try simp only [Bool.not_eq_true', Bool.not_eq_false', Bool.not_eq_eq_eq_not, Bool.not_true, Bool.not_false] at *); first | (simp [ftV, ftB, *]; done) | (simp [ftV, ftB, *]; omega) | (simp_all [ftV, ftB]; done)), ?_⟩; (repeat (first | (with_reducible exact Ext.refl _) | (with_reducible assumption) | (with_reducible apply Ext.alloc) | (with_reducible apply Ext.drew) | (with_reducible apply Ext.drewN) | ((with_reducible refine Ext.setCell ?_ ?_ _); rotate_left; (focus (first | (simp; done) | (simp; omega) | omega))) | (with_reducible refine Ext.trans ?_ (by assumption)))))
  · replace hp : fltB k m v = false := by simpa using hp
    go_enter Try.func18, Try.ntmps18
    go_wp2_with (first | (go_at_call 43; refine (spec_fiGood_any _ _ _ _ _ _).mono ?_; rintro e w' ⟨rfl, hb⟩; (try (replace hb := Ext.trans (by assumption) hb)); have hc := Ext.cells hb; have hs := Ext.lts hb))
    all_goals (go_ret2; refine ⟨by ((try simp only [Bool.not_eq_true', Bool.not_eq_false', Bool.not_eq_eq_eq_not, Bool.not_true, Bool.not_false] at *); first | (simp [ftV, ftB, *]; done) | (simp [ftV, ftB, *]; omega) | (simp_all [ftV, ftB]; done)), ?_⟩; (repeat (first | (with_reducible exact Ext.refl _) | (with_reducible assumption) | (with_reducible apply Ext.alloc) | (with_reducible apply Ext.drew) | (with_reducible apply Ext.drewN) | ((with_reducible refine Ext.setCell ?_ ?_ _); rotate_left; (focus (first | (simp; done) | (simp; omega) | omega))) | (with_reducible refine Ext.trans ?_ (by assumption)))))

theorem impl_FilterTakes_any (p k m v t a b c d e f : Int) (w : World) :
    Calls Try.prog 20 #[fltV p k m v t, pktV a b c d e f] w fun en w' => en = .returned (.tuple #[.bool (ftV k m v a b c d e f), .bool (ftB k m v a b c d e f)]) ∧ Ext w w' := by
  by_cases hp : fltB k m v = true
  · have hk := inR_iff.1 (fltB_parts hp).1
    obtain ⟨h0, h3⟩ := hk
    go_enter Try.func20, Try.ntmps20
    go_wp2_with (first | (go_at_call 45; refine (impl_isMatch_any _ _ _ _ _ _).mono ?_; rintro e w' ⟨rfl, hb⟩; (try (replace hb := Ext.trans (by assumption) hb)); have hc := Ext.cells hb; have hs := Ext.lts hb) | (go_at_call 36; refine (impl_IsPacket_any _ _ _ _ _ _ _).mono ?_; rintro e w' ⟨rfl, hb⟩; (try (replace hb := Ext.trans (by assumption) hb)); have hc := Ext.cells hb; have hs := Ext.lts hb) | (go_at_call 46; refine (impl_takes_any _ _ _ _ _ _ _ _ _ _ _ _ h0 h3).mono ?_; rintro e w' ⟨rfl, hb⟩))
    all_goals (go_ret2; refine ⟨by ((try simp only [Bool.not_eq_true', Bool.not_eq_false', Bool.not_eq_eq_eq_not, Bool.not_true, Bool.not_false] at *); first | (simp [ftV, ftB, *]; done) | (simp [ftV, ftB, *]; omega) | (simp_all [ftV, ftB]; done)), ?_⟩; (repeat (first | (with_reducible exact Ext.refl _) | (with_reducible assumption) | (with_reducible apply Ext.alloc) | (with_reducible apply Ext.drew) | (with_reducible apply Ext.drewN) | ((with_reducible refine Ext.setCell ?_ ?_ _); rotate_left; (focus (first | (simp; done) | (simp; omega) | omega))) | (with_reducible refine Ext.trans ?_ (by assumption)))))
  · replace hp : fltB k m v = false := by simpa using hp
    go_enter Try.func20, Try.ntmps20
    go_wp2_with (first | (go_at_call 45; refine (impl_isMatch_any _ _ _ _ _ _).mono ?_; rintro e w' ⟨rfl, hb⟩; (try (replace hb := Ext.trans (by assumption) hb)); have hc := Ext.cells hb; have hs := Ext.lts hb))
    all_goals (go_ret2; refine ⟨by ((try simp only [Bool.not_eq_true', Bool.not_eq_false', Bool.not_eq_eq_eq_not, Bool.not_true, Bool.not_false] at *); first | (simp [ftV, ftB, *]; done) | (simp [ftV, ftB, *]; omega) | (simp_all [ftV, ftB]; done)), ?_⟩; (repeat (first | (with_reducible exact Ext.refl _) | (with_reducible assumption) | (with_reducible apply Ext.alloc) | (with_reducible apply Ext.drew) | (with_reducible apply Ext.drewN) | ((with_reducible refine Ext.setCell ?_ ?_ _); rotate_left; (focus (first | (simp; done) | (simp; omega) | omega))) | (with_reducible refine Ext.trans ?_ (by assumption)))))

def mpB (a b c d e f m v : Int) : Bool := pktB a b c d e f && inR m 0 65535 && inR v 0 65535
def mpM (e m v : Int) : Int := bits .or .i64 (bits .andNot .i64 e m) (bits .and .i64 v m)
/-- x if a condition holds, else 0. -/
def sel (ok : Bool) (x : Int) : Int := if ok then x else 0
abbrev mpV (a b c d e f m v : Int) : Value := pktV (sel (mpB a b c d e f m v) a) (sel (mpB a b c d e f m v) b) (sel (mpB a b c d e f m v) c) (sel (mpB a b c d e f m v) d) (sel (mpB a b c d e f m v) (mpM e m v)) (sel (mpB a b c d e f m v) f)
theorem spec_MarkedPacket_any (a b c d e f m v : Int) (w : World) :
    Calls Try.prog 21 #[pktV a b c d e f, .int .i64 m, .int .i64 v] w fun en w' => en = .returned (.tuple #[mpV a b c d e f m v, .bool (mpB a b c d e f m v)]) ∧ Ext w w' := by
  by_cases hq : mpB a b c d e f m v = true
  · have hv : mpV a b c d e f m v = pktV a b c d (mpM e m v) f := by simp [sel, hq]
    have HV := Lib.hid hv
    have HQ := Lib.hid hq
    simp only [mpB, Bool.and_eq_true] at hq
    obtain ⟨⟨h1, h2⟩, h3⟩ := hq
    have h2' := inR_iff.1 h2
    have h3' := inR_iff.1 h3
    obtain ⟨m0, m1⟩ := h2'
    obtain ⟨v0, v1⟩ := h3'
    clear hv
    go_enter Try.func21, Try.ntmps21
    go_wp2_with (first | (go_at_call 33; refine (spec_pkGood_any _ _ _ _ _ _ _ ).mono ?_; rintro e w' ⟨rfl, hb⟩; (try (replace hb := Ext.trans (by assumption) hb)); have hc := Ext.cells hb; have hz := Ext.frozens hb; have hs := Ext.lts hb; have hs0 : w.heap.size < w'.heap.size := Ext.lts hb _ (by simp <;> omega); have hc0 : ∀ o, w'.cell? ⟨w.heap.size, o, none⟩ = _ := fun o => Ext.cells hb _ o (by simp <;> omega); have hz0 : ∀ o, w'.frozen? ⟨w.heap.size, o, none⟩ = _ := fun o => Ext.frozens hb _ o (by simp <;> omega); have hs1 : w.heap.size + 1 < w'.heap.size := Ext.lts hb _ (by simp <;> omega); have hc1 : ∀ o, w'.cell? ⟨w.heap.size + 1, o, none⟩ = _ := fun o => Ext.cells hb _ o (by simp <;> omega); have hz1 : ∀ o, w'.frozen? ⟨w.heap.size + 1, o, none⟩ = _ := fun o => Ext.frozens hb _ o (by simp <;> omega); clear hc hz) | (go_at_call 47; refine (spec_pkWord_any _ _ ).mono ?_; rintro e w' ⟨rfl, rfl⟩) | (go_at_call 36; refine (impl_IsPacket_any _ _ _ _ _ _ _ ).mono ?_; rintro e w' ⟨rfl, hb⟩; (try (replace hb := Ext.trans (by assumption) hb)); have hc := Ext.cells hb; have hz := Ext.frozens hb; have hs := Ext.lts hb; have hs0 : w.heap.size < w'.heap.size := Ext.lts hb _ (by simp <;> omega); have hc0 : ∀ o, w'.cell? ⟨w.heap.size, o, none⟩ = _ := fun o => Ext.cells hb _ o (by simp <;> omega); have hz0 : ∀ o, w'.frozen? ⟨w.heap.size, o, none⟩ = _ := fun o => Ext.frozens hb _ o (by simp <;> omega); have hs1 : w.heap.size + 1 < w'.heap.size := Ext.lts hb _ (by simp <;> omega); have hc1 : ∀ o, w'.cell? ⟨w.heap.size + 1, o, none⟩ = _ := fun o => Ext.cells hb _ o (by simp <;> omega); have hz1 : ∀ o, w'.frozen? ⟨w.heap.size + 1, o, none⟩ = _ := fun o => Ext.frozens hb _ o (by simp <;> omega); clear hc hz))
    refine bodyPost_ret (v := .tuple #[pktV a b c d (mpM e m v) f, .bool true]) (by simp [results, Try.results21, go_sem, mpM, *]) rfl ⟨by simp [sel, HQ.out], ?_⟩
    (repeat (first | (with_reducible exact Ext.refl _) | (with_reducible assumption) | (with_reducible apply Ext.alloc) | (with_reducible apply Ext.drew) | (with_reducible apply Ext.drewN) | ((with_reducible refine Ext.setCell ?_ ?_ _); rotate_left; (focus (first | (simp; done) | (simp; omega) | omega))) | (with_reducible refine Ext.trans ?_ (by assumption))))
  · replace hq : mpB a b c d e f m v = false := by simpa using hq
    have hv : mpV a b c d e f m v = pktV 0 0 0 0 0 0 := by simp [sel, hq]
    have HV := Lib.hid hv
    have HQ := Lib.hid hq
    simp only [mpB, Bool.and_eq_false_iff, inR_not] at hq
    clear hv
    by_cases h1 : pktB a b c d e f = true
    · by_cases h2 : inR m 0 65535 = true
      · have h2' := inR_iff.1 h2
        obtain ⟨m0, m1⟩ := h2'
        have h3' : ¬ (0 ≤ v ∧ v ≤ 65535) := by
          rcases hq with (hq | hq) | hq
          · rw [h1] at hq; cases hq
          · omega
          · exact hq
        have h3 : inR v 0 65535 = false := inR_not.2 h3'
        clear hq
        go_enter Try.func21, Try.ntmps21
        go_wp2_with (first | (go_at_call 33; refine (spec_pkGood_any _ _ _ _ _ _ _ ).mono ?_; rintro e w' ⟨rfl, hb⟩; (try (replace hb := Ext.trans (by assumption) hb)); have hc := Ext.cells hb; have hz := Ext.frozens hb; have hs := Ext.lts hb; have hs0 : w.heap.size < w'.heap.size := Ext.lts hb _ (by simp <;> omega); have hc0 : ∀ o, w'.cell? ⟨w.heap.size, o, none⟩ = _ := fun o => Ext.cells hb _ o (by simp <;> omega); have hz0 : ∀ o, w'.frozen? ⟨w.heap.size, o, none⟩ = _ := fun o => Ext.frozens hb _ o (by simp <;> omega); have hs1 : w.heap.size + 1 < w'.heap.size := Ext.lts hb _ (by simp <;> omega); have hc1 : ∀ o, w'.cell? ⟨w.heap.size + 1, o, none⟩ = _ := fun o => Ext.cells hb _ o (by simp <;> omega); have hz1 : ∀ o, w'.frozen? ⟨w.heap.size + 1, o, none⟩ = _ := fun o => Ext.frozens hb _ o (by simp <;> omega); clear hc hz) | (go_at_call 47; refine (spec_pkWord_any _ _ ).mono ?_; rintro e w' ⟨rfl, rfl⟩) | (go_at_call 36; refine (impl_IsPacket_any _ _ _ _ _ _ _ ).mono ?_; rintro e w' ⟨rfl, hb⟩; (try (replace hb := Ext.trans (by assumption) hb)); have hc := Ext.cells hb; have hz := Ext.frozens hb; have hs := Ext.lts hb; have hs0 : w.heap.size < w'.heap.size := Ext.lts hb _ (by simp <;> omega); have hc0 : ∀ o, w'.cell? ⟨w.heap.size, o, none⟩ = _ := fun o => Ext.cells hb _ o (by simp <;> omega); have hz0 : ∀ o, w'.frozen? ⟨w.heap.size, o, none⟩ = _ := fun o => Ext.frozens hb _ o (by simp <;> omega); have hs1 : w.heap.size + 1 < w'.heap.size := Ext.lts hb _ (by simp <;> omega); have hc1 : ∀ o, w'.cell? ⟨w.heap.size + 1, o, none⟩ = _ := fun o => Ext.cells hb _ o (by simp <;> omega); have hz1 : ∀ o, w'.frozen? ⟨w.heap.size + 1, o, none⟩ = _ := fun o => Ext.frozens hb _ o (by simp <;> omega); clear hc hz))
        all_goals (refine bodyPost_ret (v := .tuple #[pktV 0 0 0 0 0 0, .bool false]) (by simp [results, Try.results21, go_sem, *]) rfl ⟨by simp [sel, HQ.out], ?_⟩; (repeat (first | (with_reducible exact Ext.refl _) | (with_reducible assumption) | (with_reducible apply Ext.alloc) | (with_reducible apply Ext.drew) | (with_reducible apply Ext.drewN) | ((with_reducible refine Ext.setCell ?_ ?_ _); rotate_left; (focus (first | (simp; done) | (simp; omega) | omega))) | (with_reducible refine Ext.trans ?_ (by assumption)))))
      · replace h2 : inR m 0 65535 = false := by simpa using h2
        have h2' := inR_not.1 h2
        clear hq
        go_enter Try.func21, Try.ntmps21
        go_wp2_with (first | (go_at_call 33; refine (spec_pkGood_any _ _ _ _ _ _ _ ).mono ?_; rintro e w' ⟨rfl, hb⟩; (try (replace hb := Ext.trans (by assumption) hb)); have hc := Ext.cells hb; have hz := Ext.frozens hb; have hs := Ext.lts hb; have hs0 : w.heap.size < w'.heap.size := Ext.lts hb _ (by simp <;> omega); have hc0 : ∀ o, w'.cell? ⟨w.heap.size, o, none⟩ = _ := fun o => Ext.cells hb _ o (by simp <;> omega); have hz0 : ∀ o, w'.frozen? ⟨w.heap.size, o, none⟩ = _ := fun o => Ext.frozens hb _ o (by simp <;> omega); have hs1 : w.heap.size + 1 < w'.heap.size := Ext.lts hb _ (by simp <;> omega); have hc1 : ∀ o, w'.cell? ⟨w.heap.size + 1, o, none⟩ = _ := fun o => Ext.cells hb _ o (by simp <;> omega); have hz1 : ∀ o, w'.frozen? ⟨w.heap.size + 1, o, none⟩ = _ := fun o => Ext.frozens hb _ o (by simp <;> omega); clear hc hz) | (go_at_call 47; refine (spec_pkWord_any _ _ ).mono ?_; rintro e w' ⟨rfl, rfl⟩) | (go_at_call 36; refine (impl_IsPacket_any _ _ _ _ _ _ _ ).mono ?_; rintro e w' ⟨rfl, hb⟩; (try (replace hb := Ext.trans (by assumption) hb)); have hc := Ext.cells hb; have hz := Ext.frozens hb; have hs := Ext.lts hb; have hs0 : w.heap.size < w'.heap.size := Ext.lts hb _ (by simp <;> omega); have hc0 : ∀ o, w'.cell? ⟨w.heap.size, o, none⟩ = _ := fun o => Ext.cells hb _ o (by simp <;> omega); have hz0 : ∀ o, w'.frozen? ⟨w.heap.size, o, none⟩ = _ := fun o => Ext.frozens hb _ o (by simp <;> omega); have hs1 : w.heap.size + 1 < w'.heap.size := Ext.lts hb _ (by simp <;> omega); have hc1 : ∀ o, w'.cell? ⟨w.heap.size + 1, o, none⟩ = _ := fun o => Ext.cells hb _ o (by simp <;> omega); have hz1 : ∀ o, w'.frozen? ⟨w.heap.size + 1, o, none⟩ = _ := fun o => Ext.frozens hb _ o (by simp <;> omega); clear hc hz))
        all_goals (refine bodyPost_ret (v := .tuple #[pktV 0 0 0 0 0 0, .bool false]) (by simp [results, Try.results21, go_sem, *]) rfl ⟨by simp [sel, HQ.out], ?_⟩; (repeat (first | (with_reducible exact Ext.refl _) | (with_reducible assumption) | (with_reducible apply Ext.alloc) | (with_reducible apply Ext.drew) | (with_reducible apply Ext.drewN) | ((with_reducible refine Ext.setCell ?_ ?_ _); rotate_left; (focus (first | (simp; done) | (simp; omega) | omega))) | (with_reducible refine Ext.trans ?_ (by assumption)))))
    · replace h1 : pktB a b c d e f = false := by simpa using h1
      go_enter Try.func21, Try.ntmps21
      go_wp2_with (first | (go_at_call 33; refine (spec_pkGood_any _ _ _ _ _ _ _ ).mono ?_; rintro e w' ⟨rfl, hb⟩; (try (replace hb := Ext.trans (by assumption) hb)); have hc := Ext.cells hb; have hz := Ext.frozens hb; have hs := Ext.lts hb; have hs0 : w.heap.size < w'.heap.size := Ext.lts hb _ (by simp <;> omega); have hc0 : ∀ o, w'.cell? ⟨w.heap.size, o, none⟩ = _ := fun o => Ext.cells hb _ o (by simp <;> omega); have hz0 : ∀ o, w'.frozen? ⟨w.heap.size, o, none⟩ = _ := fun o => Ext.frozens hb _ o (by simp <;> omega); have hs1 : w.heap.size + 1 < w'.heap.size := Ext.lts hb _ (by simp <;> omega); have hc1 : ∀ o, w'.cell? ⟨w.heap.size + 1, o, none⟩ = _ := fun o => Ext.cells hb _ o (by simp <;> omega); have hz1 : ∀ o, w'.frozen? ⟨w.heap.size + 1, o, none⟩ = _ := fun o => Ext.frozens hb _ o (by simp <;> omega); clear hc hz) | (go_at_call 47; refine (spec_pkWord_any _ _ ).mono ?_; rintro e w' ⟨rfl, rfl⟩) | (go_at_call 36; refine (impl_IsPacket_any _ _ _ _ _ _ _ ).mono ?_; rintro e w' ⟨rfl, hb⟩; (try (replace hb := Ext.trans (by assumption) hb)); have hc := Ext.cells hb; have hz := Ext.frozens hb; have hs := Ext.lts hb; have hs0 : w.heap.size < w'.heap.size := Ext.lts hb _ (by simp <;> omega); have hc0 : ∀ o, w'.cell? ⟨w.heap.size, o, none⟩ = _ := fun o => Ext.cells hb _ o (by simp <;> omega); have hz0 : ∀ o, w'.frozen? ⟨w.heap.size, o, none⟩ = _ := fun o => Ext.frozens hb _ o (by simp <;> omega); have hs1 : w.heap.size + 1 < w'.heap.size := Ext.lts hb _ (by simp <;> omega); have hc1 : ∀ o, w'.cell? ⟨w.heap.size + 1, o, none⟩ = _ := fun o => Ext.cells hb _ o (by simp <;> omega); have hz1 : ∀ o, w'.frozen? ⟨w.heap.size + 1, o, none⟩ = _ := fun o => Ext.frozens hb _ o (by simp <;> omega); clear hc hz))
      refine bodyPost_ret (v := .tuple #[pktV 0 0 0 0 0 0, .bool false]) (by simp [results, Try.results21, go_sem, *]) rfl ⟨by simp [sel, HQ.out], ?_⟩
      (repeat (first | (with_reducible exact Ext.refl _) | (with_reducible assumption) | (with_reducible apply Ext.alloc) | (with_reducible apply Ext.drew) | (with_reducible apply Ext.drewN) | ((with_reducible refine Ext.setCell ?_ ?_ _); rotate_left; (focus (first | (simp; done) | (simp; omega) | omega))) | (with_reducible refine Ext.trans ?_ (by assumption))))
theorem impl_MarkedPacket_any (a b c d e f m v : Int) (w : World) :
    Calls Try.prog 22 #[pktV a b c d e f, .int .i64 m, .int .i64 v] w fun en w' => en = .returned (.tuple #[mpV a b c d e f m v, .bool (mpB a b c d e f m v)]) ∧ Ext w w' := by
  by_cases hq : mpB a b c d e f m v = true
  · have hv : mpV a b c d e f m v = pktV a b c d (mpM e m v) f := by simp [sel, hq]
    have HV := Lib.hid hv
    have HQ := Lib.hid hq
    simp only [mpB, Bool.and_eq_true] at hq
    obtain ⟨⟨h1, h2⟩, h3⟩ := hq
    have h2' := inR_iff.1 h2
    have h3' := inR_iff.1 h3
    obtain ⟨m0, m1⟩ := h2'
    obtain ⟨v0, v1⟩ := h3'
    clear hv
    go_enter Try.func22, Try.ntmps22
    go_wp2_with (first | (go_at_call 33; refine (spec_pkGood_any _ _ _ _ _ _ _ ).mono ?_; rintro e w' ⟨rfl, hb⟩; (try (replace hb := Ext.trans (by assumption) hb)); have hc := Ext.cells hb; have hz := Ext.frozens hb; have hs := Ext.lts hb; have hs0 : w.heap.size < w'.heap.size := Ext.lts hb _ (by simp <;> omega); have hc0 : ∀ o, w'.cell? ⟨w.heap.size, o, none⟩ = _ := fun o => Ext.cells hb _ o (by simp <;> omega); have hz0 : ∀ o, w'.frozen? ⟨w.heap.size, o, none⟩ = _ := fun o => Ext.frozens hb _ o (by simp <;> omega); have hs1 : w.heap.size + 1 < w'.heap.size := Ext.lts hb _ (by simp <;> omega); have hc1 : ∀ o, w'.cell? ⟨w.heap.size + 1, o, none⟩ = _ := fun o => Ext.cells hb _ o (by simp <;> omega); have hz1 : ∀ o, w'.frozen? ⟨w.heap.size + 1, o, none⟩ = _ := fun o => Ext.frozens hb _ o (by simp <;> omega); clear hc hz) | (go_at_call 47; refine (spec_pkWord_any _ _ ).mono ?_; rintro e w' ⟨rfl, rfl⟩) | (go_at_call 36; refine (impl_IsPacket_any _ _ _ _ _ _ _ ).mono ?_; rintro e w' ⟨rfl, hb⟩; (try (replace hb := Ext.trans (by assumption) hb)); have hc := Ext.cells hb; have hz := Ext.frozens hb; have hs := Ext.lts hb; have hs0 : w.heap.size < w'.heap.size := Ext.lts hb _ (by simp <;> omega); have hc0 : ∀ o, w'.cell? ⟨w.heap.size, o, none⟩ = _ := fun o => Ext.cells hb _ o (by simp <;> omega); have hz0 : ∀ o, w'.frozen? ⟨w.heap.size, o, none⟩ = _ := fun o => Ext.frozens hb _ o (by simp <;> omega); have hs1 : w.heap.size + 1 < w'.heap.size := Ext.lts hb _ (by simp <;> omega); have hc1 : ∀ o, w'.cell? ⟨w.heap.size + 1, o, none⟩ = _ := fun o => Ext.cells hb _ o (by simp <;> omega); have hz1 : ∀ o, w'.frozen? ⟨w.heap.size + 1, o, none⟩ = _ := fun o => Ext.frozens hb _ o (by simp <;> omega); clear hc hz))
    refine bodyPost_ret (v := .tuple #[pktV a b c d (mpM e m v) f, .bool true]) (by simp [results, Try.results22, go_sem, mpM, *]) rfl ⟨by simp [sel, HQ.out], ?_⟩
    (repeat (first | (with_reducible exact Ext.refl _) | (with_reducible assumption) | (with_reducible apply Ext.alloc) | (with_reducible apply Ext.drew) | (with_reducible apply Ext.drewN) | ((with_reducible refine Ext.setCell ?_ ?_ _); rotate_left; (focus (first | (simp; done) | (simp; omega) | omega))) | (with_reducible refine Ext.trans ?_ (by assumption))))
  · replace hq : mpB a b c d e f m v = false := by simpa using hq
    have hv : mpV a b c d e f m v = pktV 0 0 0 0 0 0 := by simp [sel, hq]
    have HV := Lib.hid hv
    have HQ := Lib.hid hq
    simp only [mpB, Bool.and_eq_false_iff, inR_not] at hq
    clear hv
    by_cases h1 : pktB a b c d e f = true
    · by_cases h2 : inR m 0 65535 = true
      · have h2' := inR_iff.1 h2
        obtain ⟨m0, m1⟩ := h2'
        have h3' : ¬ (0 ≤ v ∧ v ≤ 65535) := by
          rcases hq with (hq | hq) | hq
          · rw [h1] at hq; cases hq
          · omega
          · exact hq
        have h3 : inR v 0 65535 = false := inR_not.2 h3'
        clear hq
        go_enter Try.func22, Try.ntmps22
        go_wp2_with (first | (go_at_call 33; refine (spec_pkGood_any _ _ _ _ _ _ _ ).mono ?_; rintro e w' ⟨rfl, hb⟩; (try (replace hb := Ext.trans (by assumption) hb)); have hc := Ext.cells hb; have hz := Ext.frozens hb; have hs := Ext.lts hb; have hs0 : w.heap.size < w'.heap.size := Ext.lts hb _ (by simp <;> omega); have hc0 : ∀ o, w'.cell? ⟨w.heap.size, o, none⟩ = _ := fun o => Ext.cells hb _ o (by simp <;> omega); have hz0 : ∀ o, w'.frozen? ⟨w.heap.size, o, none⟩ = _ := fun o => Ext.frozens hb _ o (by simp <;> omega); have hs1 : w.heap.size + 1 < w'.heap.size := Ext.lts hb _ (by simp <;> omega); have hc1 : ∀ o, w'.cell? ⟨w.heap.size + 1, o, none⟩ = _ := fun o => Ext.cells hb _ o (by simp <;> omega); have hz1 : ∀ o, w'.frozen? ⟨w.heap.size + 1, o, none⟩ = _ := fun o => Ext.frozens hb _ o (by simp <;> omega); clear hc hz) | (go_at_call 47; refine (spec_pkWord_any _ _ ).mono ?_; rintro e w' ⟨rfl, rfl⟩) | (go_at_call 36; refine (impl_IsPacket_any _ _ _ _ _ _ _ ).mono ?_; rintro e w' ⟨rfl, hb⟩; (try (replace hb := Ext.trans (by assumption) hb)); have hc := Ext.cells hb; have hz := Ext.frozens hb; have hs := Ext.lts hb; have hs0 : w.heap.size < w'.heap.size := Ext.lts hb _ (by simp <;> omega); have hc0 : ∀ o, w'.cell? ⟨w.heap.size, o, none⟩ = _ := fun o => Ext.cells hb _ o (by simp <;> omega); have hz0 : ∀ o, w'.frozen? ⟨w.heap.size, o, none⟩ = _ := fun o => Ext.frozens hb _ o (by simp <;> omega); have hs1 : w.heap.size + 1 < w'.heap.size := Ext.lts hb _ (by simp <;> omega); have hc1 : ∀ o, w'.cell? ⟨w.heap.size + 1, o, none⟩ = _ := fun o => Ext.cells hb _ o (by simp <;> omega); have hz1 : ∀ o, w'.frozen? ⟨w.heap.size + 1, o, none⟩ = _ := fun o => Ext.frozens hb _ o (by simp <;> omega); clear hc hz))
        all_goals (refine bodyPost_ret (v := .tuple #[pktV 0 0 0 0 0 0, .bool false]) (by simp [results, Try.results22, go_sem, *]) rfl ⟨by simp [sel, HQ.out], ?_⟩; (repeat (first | (with_reducible exact Ext.refl _) | (with_reducible assumption) | (with_reducible apply Ext.alloc) | (with_reducible apply Ext.drew) | (with_reducible apply Ext.drewN) | ((with_reducible refine Ext.setCell ?_ ?_ _); rotate_left; (focus (first | (simp; done) | (simp; omega) | omega))) | (with_reducible refine Ext.trans ?_ (by assumption)))))
      · replace h2 : inR m 0 65535 = false := by simpa using h2
        have h2' := inR_not.1 h2
        clear hq
        go_enter Try.func22, Try.ntmps22
        go_wp2_with (first | (go_at_call 33; refine (spec_pkGood_any _ _ _ _ _ _ _ ).mono ?_; rintro e w' ⟨rfl, hb⟩; (try (replace hb := Ext.trans (by assumption) hb)); have hc := Ext.cells hb; have hz := Ext.frozens hb; have hs := Ext.lts hb; have hs0 : w.heap.size < w'.heap.size := Ext.lts hb _ (by simp <;> omega); have hc0 : ∀ o, w'.cell? ⟨w.heap.size, o, none⟩ = _ := fun o => Ext.cells hb _ o (by simp <;> omega); have hz0 : ∀ o, w'.frozen? ⟨w.heap.size, o, none⟩ = _ := fun o => Ext.frozens hb _ o (by simp <;> omega); have hs1 : w.heap.size + 1 < w'.heap.size := Ext.lts hb _ (by simp <;> omega); have hc1 : ∀ o, w'.cell? ⟨w.heap.size + 1, o, none⟩ = _ := fun o => Ext.cells hb _ o (by simp <;> omega); have hz1 : ∀ o, w'.frozen? ⟨w.heap.size + 1, o, none⟩ = _ := fun o => Ext.frozens hb _ o (by simp <;> omega); clear hc hz) | (go_at_call 47; refine (spec_pkWord_any _ _ ).mono ?_; rintro e w' ⟨rfl, rfl⟩) | (go_at_call 36; refine (impl_IsPacket_any _ _ _ _ _ _ _ ).mono ?_; rintro e w' ⟨rfl, hb⟩; (try (replace hb := Ext.trans (by assumption) hb)); have hc := Ext.cells hb; have hz := Ext.frozens hb; have hs := Ext.lts hb; have hs0 : w.heap.size < w'.heap.size := Ext.lts hb _ (by simp <;> omega); have hc0 : ∀ o, w'.cell? ⟨w.heap.size, o, none⟩ = _ := fun o => Ext.cells hb _ o (by simp <;> omega); have hz0 : ∀ o, w'.frozen? ⟨w.heap.size, o, none⟩ = _ := fun o => Ext.frozens hb _ o (by simp <;> omega); have hs1 : w.heap.size + 1 < w'.heap.size := Ext.lts hb _ (by simp <;> omega); have hc1 : ∀ o, w'.cell? ⟨w.heap.size + 1, o, none⟩ = _ := fun o => Ext.cells hb _ o (by simp <;> omega); have hz1 : ∀ o, w'.frozen? ⟨w.heap.size + 1, o, none⟩ = _ := fun o => Ext.frozens hb _ o (by simp <;> omega); clear hc hz))
        all_goals (refine bodyPost_ret (v := .tuple #[pktV 0 0 0 0 0 0, .bool false]) (by simp [results, Try.results22, go_sem, *]) rfl ⟨by simp [sel, HQ.out], ?_⟩; (repeat (first | (with_reducible exact Ext.refl _) | (with_reducible assumption) | (with_reducible apply Ext.alloc) | (with_reducible apply Ext.drew) | (with_reducible apply Ext.drewN) | ((with_reducible refine Ext.setCell ?_ ?_ _); rotate_left; (focus (first | (simp; done) | (simp; omega) | omega))) | (with_reducible refine Ext.trans ?_ (by assumption)))))
    · replace h1 : pktB a b c d e f = false := by simpa using h1
      go_enter Try.func22, Try.ntmps22
      go_wp2_with (first | (go_at_call 33; refine (spec_pkGood_any _ _ _ _ _ _ _ ).mono ?_; rintro e w' ⟨rfl, hb⟩; (try (replace hb := Ext.trans (by assumption) hb)); have hc := Ext.cells hb; have hz := Ext.frozens hb; have hs := Ext.lts hb; have hs0 : w.heap.size < w'.heap.size := Ext.lts hb _ (by simp <;> omega); have hc0 : ∀ o, w'.cell? ⟨w.heap.size, o, none⟩ = _ := fun o => Ext.cells hb _ o (by simp <;> omega); have hz0 : ∀ o, w'.frozen? ⟨w.heap.size, o, none⟩ = _ := fun o => Ext.frozens hb _ o (by simp <;> omega); have hs1 : w.heap.size + 1 < w'.heap.size := Ext.lts hb _ (by simp <;> omega); have hc1 : ∀ o, w'.cell? ⟨w.heap.size + 1, o, none⟩ = _ := fun o => Ext.cells hb _ o (by simp <;> omega); have hz1 : ∀ o, w'.frozen? ⟨w.heap.size + 1, o, none⟩ = _ := fun o => Ext.frozens hb _ o (by simp <;> omega); clear hc hz) | (go_at_call 47; refine (spec_pkWord_any _ _ ).mono ?_; rintro e w' ⟨rfl, rfl⟩) | (go_at_call 36; refine (impl_IsPacket_any _ _ _ _ _ _ _ ).mono ?_; rintro e w' ⟨rfl, hb⟩; (try (replace hb := Ext.trans (by assumption) hb)); have hc := Ext.cells hb; have hz := Ext.frozens hb; have hs := Ext.lts hb; have hs0 : w.heap.size < w'.heap.size := Ext.lts hb _ (by simp <;> omega); have hc0 : ∀ o, w'.cell? ⟨w.heap.size, o, none⟩ = _ := fun o => Ext.cells hb _ o (by simp <;> omega); have hz0 : ∀ o, w'.frozen? ⟨w.heap.size, o, none⟩ = _ := fun o => Ext.frozens hb _ o (by simp <;> omega); have hs1 : w.heap.size + 1 < w'.heap.size := Ext.lts hb _ (by simp <;> omega); have hc1 : ∀ o, w'.cell? ⟨w.heap.size + 1, o, none⟩ = _ := fun o => Ext.cells hb _ o (by simp <;> omega); have hz1 : ∀ o, w'.frozen? ⟨w.heap.size + 1, o, none⟩ = _ := fun o => Ext.frozens hb _ o (by simp <;> omega); clear hc hz))
      refine bodyPost_ret (v := .tuple #[pktV 0 0 0 0 0 0, .bool false]) (by simp [results, Try.results22, go_sem, *]) rfl ⟨by simp [sel, HQ.out], ?_⟩
      (repeat (first | (with_reducible exact Ext.refl _) | (with_reducible assumption) | (with_reducible apply Ext.alloc) | (with_reducible apply Ext.drew) | (with_reducible apply Ext.drewN) | ((with_reducible refine Ext.setCell ?_ ?_ _); rotate_left; (focus (first | (simp; done) | (simp; omega) | omega))) | (with_reducible refine Ext.trans ?_ (by assumption))))
theorem laws_eqPacket_any (a b c d e f : Int) (w : World) :
    Calls Try.prog 23 #[pktV a b c d e f, pktV a b c d e f] w fun en w' => en = .returned (.bool true) ∧ Ext w w' := by
  go_enter Try.func23, Try.ntmps23
  go_wp2
  go_ret
  refine ⟨rfl, ?_⟩
  (repeat (first | (with_reducible exact Ext.refl _) | (with_reducible assumption) | (with_reducible apply Ext.alloc) | (with_reducible apply Ext.drew) | (with_reducible apply Ext.drewN) | ((with_reducible refine Ext.setCell ?_ ?_ _); rotate_left; (focus (first | (simp; done) | (simp; omega) | omega))) | (with_reducible refine Ext.trans ?_ (by assumption))))
end Go.Proofs.Ytmciiomhcojaaaa
