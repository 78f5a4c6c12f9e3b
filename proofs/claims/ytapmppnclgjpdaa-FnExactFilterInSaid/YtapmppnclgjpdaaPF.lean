/- Contracts of functions on packets and filters. -/
import Derived.Test.YtapmppnclgjpdaaNum
import Derived.Test.YtapmppnclgjpdaaBits
namespace Go.Proofs.Ytapmppnclgjpdaa
open Go.RowKit
set_option maxHeartbeats 400000
set_option linter.unusedSimpArgs false
set_option linter.unusedVariables false

abbrev pktV (a b c d e f : Int) : Value := .agg #[.int .i64 a, .int .i64 b, .int .i64 c, .int .i64 d, .int .i64 e, .int .i64 f]
abbrev fltV (p f m v t : Int) : Value := .agg #[.int .i64 p, .int .i64 f, .int .i64 m, .int .i64 v, .int .i64 t]
def pktB (a b c d e f : Int) : Bool := inR a 1 100000 && inR b 0 65535 && inR c 0 65535 && inR d 0 65535 && inR e 0 65535 && inR f 1 1500
def fltB (f m v : Int) : Bool := inR f 0 3 && inR m 0 65535 && inR v 0 65535 && (bits .andNot .i64 v m == 0)

theorem laws_toPacket_any (a b c d e f : Int) (w : World) :
    Calls Try.prog 14 #[pktV a b c d e f] w fun en w' => en = .returned (pktV a b c d e f) ∧ Ext w w' := by
  go_enter Try.func14, Try.ntmps14
  go_wp2
  refine bodyPost_ret (v := pktV a b c d e f) (by simp [results, Try.results14, go_sem]) rfl ⟨rfl, ?_⟩
  exact (((Ext.refl _).alloc _).alloc _).alloc _

theorem laws_toFilter_any (p f m v t : Int) (w : World) :
    Calls Try.prog 19 #[fltV p f m v t] w fun en w' => en = .returned (fltV p f m v t) ∧ Ext w w' := by
  go_enter Try.func19, Try.ntmps19
  go_wp2
  refine bodyPost_ret (v := fltV p f m v t) (by simp [results, Try.results19, go_sem]) rfl ⟨rfl, ?_⟩
  exact (((Ext.refl _).alloc _).alloc _).alloc _

theorem spec_pkWord_any (a : Int) (w : World) :
    Calls Try.prog 36 #[.int .i64 a] w fun e w' => e = .returned (.bool (inR a 0 65535)) ∧ w = w' := by
  go_enter Try.func36, Try.ntmps36
  go_wp2_with (go_at_call 33; refine (spec_l1In_any _ _ _ _).mono ?_; rintro e w' ⟨rfl, rfl⟩)
  go_ret
  exact ⟨rfl, rfl⟩

theorem spec_pkGood_any (a b c d e f : Int) (w : World) :
    Calls Try.prog 27 #[pktV a b c d e f] w fun en w' => en = .returned (.bool (pktB a b c d e f)) ∧ Ext w w' := by
  go_enter Try.func27, Try.ntmps27
  go_wp2_with (first | (go_at_call 33; refine (spec_l1In_any _ _ _ _).mono ?_; rintro e w' ⟨rfl, rfl⟩) | (go_at_call 36; refine (spec_pkWord_any _ _).mono ?_; rintro e w' ⟨rfl, rfl⟩))
  all_goals (go_ret; refine ⟨?_, (Ext.refl _).alloc _⟩; simp [pktB, *])

theorem spec_IsPacket_any (a b c d e f : Int) (w : World) :
    Calls Try.prog 13 #[pktV a b c d e f] w fun en w' => en = .returned (.bool (pktB a b c d e f)) ∧ Ext w w' := by
  go_enter Try.func13, Try.ntmps13
  go_wp2_with (go_at_call 27; refine (spec_pkGood_any _ _ _ _ _ _ _).mono ?_; rintro e w' ⟨rfl, hb⟩)
  go_ret
  exact ⟨rfl, Ext.trans ((Ext.refl _).alloc _) hb⟩

theorem impl_fieldsOf_any (a b c d e f : Int) (w : World) :
    Calls Try.prog 28 #[pktV a b c d e f] w fun en w' => en = .returned (.agg #[.int .i64 b, .int .i64 c, .int .i64 d, .int .i64 e]) ∧ Ext w w' := by
  go_enter Try.func28, Try.ntmps28
  go_wp2
  refine bodyPost_ret (v := .agg #[.int .i64 b, .int .i64 c, .int .i64 d, .int .i64 e]) (by simp [results, Try.results28, go_sem]) rfl ⟨rfl, ?_⟩
  exact (((Ext.refl _).alloc _).alloc _)

theorem ix4_0 (x0 x1 x2 x3 : Value) (w : World) : (Instr.index 44 (.agg #[x0, x1, x2, x3]) (.int .i64 0)).run Try.prog w = .ok x0 w := by kernel_rfl
theorem ix4_1 (x0 x1 x2 x3 : Value) (w : World) : (Instr.index 44 (.agg #[x0, x1, x2, x3]) (.int .i64 1)).run Try.prog w = .ok x1 w := by kernel_rfl
theorem ix4_2 (x0 x1 x2 x3 : Value) (w : World) : (Instr.index 44 (.agg #[x0, x1, x2, x3]) (.int .i64 2)).run Try.prog w = .ok x2 w := by kernel_rfl
theorem ix4_3 (x0 x1 x2 x3 : Value) (w : World) : (Instr.index 44 (.agg #[x0, x1, x2, x3]) (.int .i64 3)).run Try.prog w = .ok x3 w := by kernel_rfl

theorem impl_IsPacket_any (a b c d e f : Int) (w : World) :
    Calls Try.prog 15 #[pktV a b c d e f] w fun en w' => en = .returned (.bool (pktB a b c d e f)) ∧ Ext w w' := by
  have i0 := ix4_0
  have i1 := ix4_1
  have i2 := ix4_2
  have i3 := ix4_3
  go_enter Try.func15, Try.ntmps15
  go_wp2_with (go_at_call 28; refine (impl_fieldsOf_any _ _ _ _ _ _ _).mono ?_; rintro en w1 ⟨rfl, hb1⟩)
  have hx : Ext w w1 := Ext.trans ((Ext.refl _).alloc _) hb1
  have hc0 : w1.cell? ⟨w.heap.size, 0, none⟩ = some (.int .i64 a) := by rw [Ext.cell hb1 (by simp)]; simp
  have hc5 : w1.cell? ⟨w.heap.size, 5, none⟩ = some (.int .i64 f) := by rw [Ext.cell hb1 (by simp)]; simp
  refine wp_loop_rounds 5 ?_
  rw [rounds_succ]
  go_wp2
  all_goals (try (rw [rounds_succ]; go_wp2))
  all_goals (try (rw [rounds_succ]; go_wp2))
  all_goals (try (rw [rounds_succ]; go_wp2))
  all_goals (try (rw [rounds_succ]; go_wp2))
  all_goals (go_ret; refine ⟨?_, hx⟩; first | (simp [pktB, inR, *]; done) | (simp [pktB, inR, *]; omega))

theorem spec_fiGood_any (p f m v t : Int) (w : World) :
    Calls Try.prog 30 #[fltV p f m v t] w fun e w' => e = .returned (.bool (fltB f m v)) ∧ Ext w w' := by
  go_enter Try.func30, Try.ntmps30
  go_wp2_with (go_at_call 33; refine (spec_l1In_any _ _ _ _).mono ?_; rintro e w' ⟨rfl, rfl⟩)
  all_goals (go_ret; refine ⟨?_, (Ext.refl _).alloc _⟩; first | (simp [fltB, *]; done) | (have hv : I64 v := i64_in (a := 0) (b := 65535) (by assumption) (by unfold I64; omega) (by unfold I64; omega); have hh := and_self_iff v m hv; simp [fltB, *]))

theorem impl_isMatch_any (p f m v t : Int) (w : World) :
    Calls Try.prog 32 #[fltV p f m v t] w fun e w' => e = .returned (.bool (fltB f m v)) ∧ Ext w w' := by
  go_enter Try.func32, Try.ntmps32
  go_wp2
  all_goals (go_ret; refine ⟨?_, (Ext.refl _).alloc _⟩; first | (simp [fltB, inR, *]; done) | (simp [fltB, inR, *]; omega))

def meetB (f m v f' m' v' : Int) : Bool := (f != f') || (bits .and .i64 (bits .and .i64 (bits .xor .i64 v v') m) m' == 0)
theorem spec_fiMeet_any (p f m v t p' f' m' v' t' : Int) (w : World) :
    Calls Try.prog 31 #[fltV p f m v t, fltV p' f' m' v' t'] w fun e w' => e = .returned (.bool (meetB f m v f' m' v')) ∧ Ext w w' := by
  have hm := meet_iff v v' m m'
  go_enter Try.func31, Try.ntmps31
  go_wp2
  all_goals (go_ret; refine ⟨?_, ((Ext.refl _).alloc _).alloc _⟩; simp [meetB, *])

def metA (f m v f' m' v' : Int) : Bool := fltB f m v && fltB f' m' v' && meetB f m v f' m' v'
def twoB (f m v f' m' v' : Int) : Bool := fltB f m v && fltB f' m' v'
theorem spec_FiltersMeet_any (p f m v t p' f' m' v' t' : Int) (w : World) :
    Calls Try.prog 18 #[fltV p f m v t, fltV p' f' m' v' t'] w fun e w' => e = .returned (.tuple #[.bool (metA f m v f' m' v'), .bool (twoB f m v f' m' v')]) ∧ Ext w w' := by
  go_enter Try.func18, Try.ntmps18
  go_wp2_with (first | (go_at_call 30; refine (spec_fiGood_any _ _ _ _ _ _ ).mono ?_; rintro e w' ⟨rfl, hb⟩; (try (replace hb := Ext.trans (by assumption) hb)); have hc := Ext.cells hb; have hs := Ext.lts hb) | (go_at_call 31; refine (spec_fiMeet_any _ _ _ _ _ _ _ _ _ _ _ ).mono ?_; rintro e w' ⟨rfl, hb⟩; (try (replace hb := Ext.trans (by assumption) hb)); have hc := Ext.cells hb; have hs := Ext.lts hb))
  all_goals (go_ret2; refine ⟨by ((try simp only [Bool.not_eq_true', Bool.not_eq_false', Bool.not_eq_eq_eq_not, Bool.not_true, Bool.not_false] at *); first | (simp [metA, twoB, *]; done) | (simp [metA, twoB, *]; omega) | (simp_all [metA, twoB]; done)), ?_⟩; (repeat (first | exact Ext.refl _ | assumption | apply Ext.alloc | apply Ext.drew | apply Ext.drewN | (refine Ext.trans ?_ (by assumption)))))

theorem impl_FiltersMeet_any (p f m v t p' f' m' v' t' : Int) (w : World) :
    Calls Try.prog 20 #[fltV p f m v t, fltV p' f' m' v' t'] w fun e w' => e = .returned (.tuple #[.bool (metA f m v f' m' v'), .bool (twoB f m v f' m' v')]) ∧ Ext w w' := by
  go_enter Try.func20, Try.ntmps20
  go_wp2_with (first | (go_at_call 32; refine (impl_isMatch_any _ _ _ _ _ _ ).mono ?_; rintro e w' ⟨rfl, hb⟩; (try (replace hb := Ext.trans (by assumption) hb)); have hc := Ext.cells hb; have hs := Ext.lts hb))
  all_goals (go_ret2; refine ⟨by ((try simp only [Bool.not_eq_true', Bool.not_eq_false', Bool.not_eq_eq_eq_not, Bool.not_true, Bool.not_false] at *); first | (simp [metA, twoB, meetB, *]; done) | (simp [metA, twoB, meetB, *]; omega) | (simp_all [metA, twoB, meetB]; done)), ?_⟩; (repeat (first | exact Ext.refl _ | assumption | apply Ext.alloc | apply Ext.drew | apply Ext.drewN | (refine Ext.trans ?_ (by assumption)))))

def finA (f m v f' m' v' : Int) : Bool := (m' == 0) || ((f == f') && ((bits .and .i64 m m' == m') && meetB f m v f' m' v'))
def finB (f m v f' m' v' : Int) : Bool := (m' == 0) || ((f == f') && ((bits .andNot .i64 m' m == 0) && (bits .and .i64 v m' == v')))
theorem fin_eq (f m v f' m' v' : Int) (h : fltB f' m' v' = true) : finA f m v f' m' v' = finB f m v f' m' v' := by
  simp only [fltB, Bool.and_eq_true] at h
  obtain ⟨⟨⟨_, h1⟩, h2⟩, h3⟩ := h
  have hm : I64 m' := i64_in h1 (by unfold I64; omega) (by unfold I64; omega)
  have hv : I64 v' := i64_in h2 (by unfold I64; omega) (by unfold I64; omega)
  unfold finA finB
  rw [← in_iff m v m' v' hm hv h3, meet_iff]
  cases hf : (f == f')
  · simp
  · have : f = f' := by simpa using hf
    simp [meetB, this]
def filtIn (f m v f' m' v' : Int) : Bool := fltB f m v && fltB f' m' v' && finA f m v f' m' v'
theorem spec_FilterIn_any (p f m v t p' f' m' v' t' : Int) (w : World) :
    Calls Try.prog 21 #[fltV p f m v t, fltV p' f' m' v' t'] w fun e w' => e = .returned (.tuple #[.bool (filtIn f m v f' m' v'), .bool (twoB f m v f' m' v')]) ∧ Ext w w' := by
  go_enter Try.func21, Try.ntmps21
  go_wp2_with (first | (go_at_call 30; refine (spec_fiGood_any _ _ _ _ _ _ ).mono ?_; rintro e w' ⟨rfl, hb⟩; (try (replace hb := Ext.trans (by assumption) hb)); have hc := Ext.cells hb; have hs := Ext.lts hb) | (go_at_call 31; refine (spec_fiMeet_any _ _ _ _ _ _ _ _ _ _ _ ).mono ?_; rintro e w' ⟨rfl, hb⟩; (try (replace hb := Ext.trans (by assumption) hb)); have hc := Ext.cells hb; have hs := Ext.lts hb))
  all_goals (go_ret2; refine ⟨by ((try simp only [Bool.not_eq_true', Bool.not_eq_false', Bool.not_eq_eq_eq_not, Bool.not_true, Bool.not_false] at *); first | (simp [filtIn, finA, twoB, *]; done) | (simp [filtIn, finA, twoB, *]; omega) | (simp_all [filtIn, finA, twoB]; done)), ?_⟩; (repeat (first | exact Ext.refl _ | assumption | apply Ext.alloc | apply Ext.drew | apply Ext.drewN | (refine Ext.trans ?_ (by assumption)))))

theorem impl_FilterIn_any (p f m v t p' f' m' v' t' : Int) (w : World) :
    Calls Try.prog 22 #[fltV p f m v t, fltV p' f' m' v' t'] w fun e w' => e = .returned (.tuple #[.bool (filtIn f m v f' m' v'), .bool (twoB f m v f' m' v')]) ∧ Ext w w' := by
  by_cases hf : fltB f' m' v' = true
  · have hq := fin_eq f m v f' m' v' hf
    go_enter Try.func22, Try.ntmps22
    go_wp2_with (first | (go_at_call 32; refine (impl_isMatch_any _ _ _ _ _ _ ).mono ?_; rintro e w' ⟨rfl, hb⟩; (try (replace hb := Ext.trans (by assumption) hb)); have hc := Ext.cells hb; have hs := Ext.lts hb))
    all_goals (go_ret2; refine ⟨by ((try simp only [Bool.not_eq_true', Bool.not_eq_false', Bool.not_eq_eq_eq_not, Bool.not_true, Bool.not_false] at *); first | (simp [filtIn, finB, twoB, *]; done) | (simp [filtIn, finB, twoB, *]; omega) | (simp_all [filtIn, finB, twoB]; done)), ?_⟩; (repeat (first | exact Ext.refl _ | assumption | apply Ext.alloc | apply Ext.drew | apply Ext.drewN | (refine Ext.trans ?_ (by assumption)))))
  · have hf : fltB f' m' v' = false := by simpa using hf
    go_enter Try.func22, Try.ntmps22
    go_wp2_with (first | (go_at_call 32; refine (impl_isMatch_any _ _ _ _ _ _ ).mono ?_; rintro e w' ⟨rfl, hb⟩; (try (replace hb := Ext.trans (by assumption) hb)); have hc := Ext.cells hb; have hs := Ext.lts hb))
    all_goals (go_ret2; refine ⟨by ((try simp only [Bool.not_eq_true', Bool.not_eq_false', Bool.not_eq_eq_eq_not, Bool.not_true, Bool.not_false] at *); first | (simp [filtIn, finB, twoB, *]; done) | (simp [filtIn, finB, twoB, *]; omega) | (simp_all [filtIn, finB, twoB]; done)), ?_⟩; (repeat (first | exact Ext.refl _ | assumption | apply Ext.alloc | apply Ext.drew | apply Ext.drewN | (refine Ext.trans ?_ (by assumption)))))
end Go.Proofs.Ytapmppnclgjpdaa
