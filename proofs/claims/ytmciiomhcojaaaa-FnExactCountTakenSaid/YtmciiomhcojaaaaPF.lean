/- Contracts of functions on packets and filters. -/
import Derived.Test.YtmciiomhcojaaaaNum
import Derived.Test.YtmciiomhcojaaaaBits
namespace Go.Proofs.Ytmciiomhcojaaaa
open Go.RowKit
set_option maxHeartbeats 400000
set_option linter.unusedSimpArgs false
set_option linter.unusedVariables false

abbrev pktV (a b c d e f : Int) : Value := .agg #[.int .i64 a, .int .i64 b, .int .i64 c, .int .i64 d, .int .i64 e, .int .i64 f]
abbrev fltV (p f m v t : Int) : Value := .agg #[.int .i64 p, .int .i64 f, .int .i64 m, .int .i64 v, .int .i64 t]
def pktB (a b c d e f : Int) : Bool := inR a 1 100000 && inR b 0 65535 && inR c 0 65535 && inR d 0 65535 && inR e 0 65535 && inR f 1 1500
def fltB (f m v : Int) : Bool := inR f 0 3 && inR m 0 65535 && inR v 0 65535 && (bits .andNot .i64 v m == 0)

theorem laws_toPacket_any (a b c d e f : Int) (w : World) :
    Calls Try.prog 12 #[pktV a b c d e f] w fun en w' => en = .returned (pktV a b c d e f) ∧ Ext w w' := by
  go_enter Try.func12, Try.ntmps12
  go_wp2
  refine bodyPost_ret (v := pktV a b c d e f) (by simp [results, Try.results12, go_sem]) rfl ⟨rfl, ?_⟩
  exact (((Ext.refl _).alloc _).alloc _).alloc _

theorem laws_toFilter_any (p f m v t : Int) (w : World) :
    Calls Try.prog 19 #[fltV p f m v t] w fun en w' => en = .returned (fltV p f m v t) ∧ Ext w w' := by
  go_enter Try.func19, Try.ntmps19
  go_wp2
  refine bodyPost_ret (v := fltV p f m v t) (by simp [results, Try.results19, go_sem]) rfl ⟨rfl, ?_⟩
  exact (((Ext.refl _).alloc _).alloc _).alloc _

theorem spec_pkWord_any (a : Int) (w : World) :
    Calls Try.prog 47 #[.int .i64 a] w fun e w' => e = .returned (.bool (inR a 0 65535)) ∧ w = w' := by
  go_enter Try.func47, Try.ntmps47
  go_wp2_with (go_at_call 34; refine (spec_l1In_any _ _ _ _).mono ?_; rintro e w' ⟨rfl, rfl⟩)
  go_ret
  exact ⟨rfl, rfl⟩

theorem spec_pkGood_any (a b c d e f : Int) (w : World) :
    Calls Try.prog 33 #[pktV a b c d e f] w fun en w' => en = .returned (.bool (pktB a b c d e f)) ∧ Ext w w' := by
  go_enter Try.func33, Try.ntmps33
  go_wp2_with (first | (go_at_call 34; refine (spec_l1In_any _ _ _ _).mono ?_; rintro e w' ⟨rfl, rfl⟩) | (go_at_call 47; refine (spec_pkWord_any _ _).mono ?_; rintro e w' ⟨rfl, rfl⟩))
  all_goals (go_ret; refine ⟨?_, (Ext.refl _).alloc _⟩; simp [pktB, *])

theorem impl_fieldsOf_any (a b c d e f : Int) (w : World) :
    Calls Try.prog 37 #[pktV a b c d e f] w fun en w' => en = .returned (.agg #[.int .i64 b, .int .i64 c, .int .i64 d, .int .i64 e]) ∧ Ext w w' := by
  go_enter Try.func37, Try.ntmps37
  go_wp2
  refine bodyPost_ret (v := .agg #[.int .i64 b, .int .i64 c, .int .i64 d, .int .i64 e]) (by simp [results, Try.results37, go_sem]) rfl ⟨rfl, ?_⟩
  exact (((Ext.refl _).alloc _).alloc _)

theorem ix4_0 (x0 x1 x2 x3 : Value) (w : World) : (Instr.index 55 (.agg #[x0, x1, x2, x3]) (.int .i64 0)).run Try.prog w = .ok x0 w := by kernel_rfl
theorem ix4_1 (x0 x1 x2 x3 : Value) (w : World) : (Instr.index 55 (.agg #[x0, x1, x2, x3]) (.int .i64 1)).run Try.prog w = .ok x1 w := by kernel_rfl
theorem ix4_2 (x0 x1 x2 x3 : Value) (w : World) : (Instr.index 55 (.agg #[x0, x1, x2, x3]) (.int .i64 2)).run Try.prog w = .ok x2 w := by kernel_rfl
theorem ix4_3 (x0 x1 x2 x3 : Value) (w : World) : (Instr.index 55 (.agg #[x0, x1, x2, x3]) (.int .i64 3)).run Try.prog w = .ok x3 w := by kernel_rfl

theorem impl_IsPacket_any (a b c d e f : Int) (w : World) :
    Calls Try.prog 36 #[pktV a b c d e f] w fun en w' => en = .returned (.bool (pktB a b c d e f)) ∧ Ext w w' := by
  have i0 := ix4_0
  have i1 := ix4_1
  have i2 := ix4_2
  have i3 := ix4_3
  go_enter Try.func36, Try.ntmps36
  go_wp2_with (go_at_call 37; refine (impl_fieldsOf_any _ _ _ _ _ _ _).mono ?_; rintro en w1 ⟨rfl, hb1⟩)
  have hx : Ext w w1 := Ext.trans ((Ext.refl _).alloc _) hb1
  have hc0 : w1.cell? ⟨w.heap.size, 0, none⟩ = some (.int .i64 a) := by rw [Ext.cell hb1 (by simp)]; simp
  have hc5 : w1.cell? ⟨w.heap.size, 5, none⟩ = some (.int .i64 f) := by rw [Ext.cell hb1 (by simp)]; simp
  refine wp_loop_rounds 5 ?_
  rw [rounds_succ]
  go_wp2
  all_goals (try (rw [rounds_succ]; go_wp2))
  all_goals (try (rw [rounds_succ]; go_wp2))
  all_goals (try (rw [rounds_succ]; go_wp2))
  all_goals (try (rw [rounds_succ]; go_wp2))
  all_goals (go_ret; refine ⟨?_, hx⟩; first | (simp [pktB, inR, *]; done) | (simp [pktB, inR, *]; omega))

theorem spec_fiGood_any (p f m v t : Int) (w : World) :
    Calls Try.prog 43 #[fltV p f m v t] w fun e w' => e = .returned (.bool (fltB f m v)) ∧ Ext w w' := by
  go_enter Try.func43, Try.ntmps43
  go_wp2_with (go_at_call 34; refine (spec_l1In_any _ _ _ _).mono ?_; rintro e w' ⟨rfl, rfl⟩)
  all_goals (go_ret; refine ⟨?_, (Ext.refl _).alloc _⟩; first | (simp [fltB, *]; done) | (have hv : I64 v := i64_in (a := 0) (b := 65535) (by assumption) (by unfold I64; omega) (by unfold I64; omega); have hh := and_self_iff v m hv; simp [fltB, *]))

theorem impl_isMatch_any (p f m v t : Int) (w : World) :
    Calls Try.prog 45 #[fltV p f m v t] w fun e w' => e = .returned (.bool (fltB f m v)) ∧ Ext w w' := by
  go_enter Try.func45, Try.ntmps45
  go_wp2
  all_goals (go_ret; refine ⟨?_, (Ext.refl _).alloc _⟩; first | (simp [fltB, inR, *]; done) | (simp [fltB, inR, *]; omega))

end Go.Proofs.Ytmciiomhcojaaaa
