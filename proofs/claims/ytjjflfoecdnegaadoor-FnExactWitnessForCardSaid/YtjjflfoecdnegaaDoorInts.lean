/- Contracts of the law's own functions on slices of ints: equal, marked, held. -/
import Derived.Test.YtjjflfoecdnegaaDoorProg
import Derived.Test.YtjjflfoecdnegaaDoorMem
namespace Go.Proofs.YtjjflfoecdnegaaDoor
open Go.RowKit
set_option maxRecDepth 20000
set_option maxHeartbeats 400000
set_option linter.unusedSimpArgs false
set_option linter.unusedVariables false

theorem info_int : (Tryd.prog.info? 3).map (fun i => (i.zero, i.size, i.bytes)) = some (some (.int .i64 0), 1, 8) := by kernel_rfl
theorem nil_own (w : World) (base : Nat) (e : TypeId) : OwnI w base e (.slice none 0 0) [] := World.ownsRow_nil _ _ _ _
theorem app_int {ops : Array Oper} {rest : List Oper} {o : Oper} {a : Act} {Q : Exit → Act → World → Prop} {w wr : World} {v : Value} {l : List Int} {y : Int} {s x : Operand} (hown : OwnI wr w.heap.size 3 v l) (hn : l.length ≤ 10000000) (hE : Ext w wr)
    (hgd : o.guard = none) (ho : o.op = .call { callee := .builtin .append, args := #[s, x], argTypes := #[27, 27] })
    (hs : a.eval s = v) (hx : a.eval x = .slice (some ⟨wr.heap.size, 0, none⟩) 1 1)
    (h : ∀ v' w', OwnI w' w.heap.size 3 v' (l ++ [y]) → Ext w w' → wpList Tryd.prog ops Q rest (a.put o.dst v') w') : wpList Tryd.prog ops Q (o :: rest) a (wr.alloc (.cells #[.int .i64 y] 3)) := by
  obtain ⟨i0, ii0, ii1, ii2, ii3⟩ := info_parts info_int
  exact own_app1 Tryd.underlying27 ii0 ii1 ii2 ii3 rfl (by omega) (by omega) icell_len (fun x u hu => by simp [icell] at hu; subst hu; rfl) w wr hgd s x ho v l y [.int .i64 y] rfl hs hx hown hn hE h

theorem laws_eqIntS_any (u v : Value) (l : List Int) (w : World) (hu : RdI w u l) (hv : RdI w v l) (hl : l.length ≤ 2000000) :
    Calls Tryd.prog 13 #[u, v] w fun e w' => e = .returned (.bool true) ∧ Ext w w' := by
  obtain ⟨A, c, rfl, hc, ha⟩ := hu
  obtain ⟨B, d, rfl, hd, hb⟩ := hv
  have HA := Lib.hid ha
  have HB := Lib.hid hb
  clear ha hb
  have hq : ((l.length : Int) != (l.length : Int)) = false := by simp
  go_enter Tryd.func13, Tryd.ntmps13
  go_wp2
  go_loopw [5] (fun t wr => ∃ k : Nat, k ≤ l.length ∧ t = .int .i64 k ∧ Ext w wr) (fun t _ => l.length - (intOf t).toNat)
  case atStart => exact ⟨0, Nat.zero_le _, rfl, Ext.refl _⟩
  case round =>
    obtain ⟨k, hk, rfl, hx⟩ := hrel
    by_cases hlt : k < l.length
    · obtain ⟨b, o, rfl, hb, hcell⟩ := HA.out k l[k] (List.getElem?_eq_getElem hlt)
      obtain ⟨b', o', rfl, hb', hcell'⟩ := HB.out k l[k] (List.getElem?_eq_getElem hlt)
      generalize l[k] = x at hcell hcell'
      have c0 : wr.cell? ⟨b, o + k, none⟩ = some (.int .i64 x) := by rw [Ext.cell hx hb]; simpa using hcell 0 _ rfl
      have c1 : wr.cell? ⟨b', o' + k, none⟩ = some (.int .i64 x) := by rw [Ext.cell hx hb']; simpa using hcell' 0 _ rfl
      have z0 : b < wr.heap.size := Ext.lts hx _ hb
      have z1 : b' < wr.heap.size := Ext.lts hx _ hb'
      clear hcell hcell'
      (go_wp2_with fail; refine wp_region_ext (by kernel_rfl) (by kernel_rfl) ?_; (repeat (first | go_big_quiet_step (fail) | quiet_step (fail))); refine wpQuiet_nil ?_; intro wq hbq; (try (replace hbq := Ext.trans (by assumption) hbq)); have hcq := Ext.cells hbq; have hzq := Ext.frozens hbq; have hsq := Ext.lts hbq)
      go_wp2
      go_roundw
      case rel => exact ⟨k + 1, by omega, by go_num, by assumption⟩
      case measure => simp [intOf]; omega
    · go_wp2
      go_ret
      exact ⟨rfl, hx⟩

theorem laws_heldIntS_any (v : Value) (k0 : Int) (n : Nat) (w : World) (hv : RdI w v (marks k0 n)) (hk0 : 0 ≤ k0) (hl : k0 + n ≤ 4000000000) :
    Calls Tryd.prog 17 #[v, .int .i64 k0] w fun e w' => e = .returned (.int .i64 (k0 + n)) ∧ Ext w w' := by
  obtain ⟨A, c, rfl, hc, ha⟩ := hv
  rw [marks_len] at hc ⊢
  have HA := Lib.hid ha
  clear ha
  go_enter Tryd.func17, Tryd.ntmps17
  go_wp2
  go_loopw [5, 1] (fun t s wr => ∃ k : Nat, k ≤ n ∧ t = .int .i64 k ∧ s = .int .i64 (k0 + k) ∧ Ext w wr) (fun t _ _ => n - (intOf t).toNat)
  case atStart => exact ⟨0, Nat.zero_le _, rfl, by simp, Ext.refl _⟩
  case round =>
    obtain ⟨k, hk, rfl, rfl, hx⟩ := hrel
    by_cases hlt : k < n
    · obtain ⟨b, o, rfl, hb, hcell⟩ := HA.out k (k0 + k) (marks_get k0 n k hlt)
      have c0 : wr.cell? ⟨b, o + k, none⟩ = some (.int .i64 (k0 + k)) := by rw [Ext.cell hx hb]; simpa using hcell 0 _ rfl
      clear hcell
      have hq : (k0 + (k : Int) != k0 + (k : Int)) = false := by simp
      go_wp2
      go_roundw
      case rel => exact ⟨k + 1, by omega, by go_num, by go_num, by assumption⟩
      case measure => simp [intOf]; omega
    · obtain rfl : k = n := by omega
      go_wp2
      go_ret
      exact ⟨rfl, hx⟩

theorem laws_markIntS_any (v : Value) (l : List Int) (k0 : Int) (base : Nat) (e : TypeId) (w : World) (hv : OwnI w base e v l) (hk0 : 0 ≤ k0) (hl : k0 + l.length ≤ 4000000000) :
    Calls Tryd.prog 16 #[v, .int .i64 k0] w fun en w' => en = .returned (.int .i64 (k0 + l.length)) ∧ OwnI w' base e v (marks k0 l.length) ∧ w.grownBy w' v.ownBlock := by
  rcases hv.2 with ⟨rfl, hn⟩ | ⟨g, cap, cur, rfl, hg, hh, hnc, hcm, hcs, hcur⟩
  · have hl0 : l = [] := List.eq_nil_of_length_eq_zero hn
    subst hl0
    go_enter Tryd.func16, Tryd.ntmps16
    go_wp2
    refine wp_loop_rounds 1 ?_
    rw [rounds_succ]
    go_wp2
    go_ret
    exact ⟨by simp, hv, World.grownBy.refl _ _⟩
  · have hown : w.ownsRow base e 1 (.slice (some ⟨g, 0, none⟩) l.length cap) l.length (l.map (Value.int .i64)) := by have := hv; unfold OwnI Own at this; rw [flat_icell] at this; exact this
    clear hv hh hcur
    go_enter Tryd.func16, Tryd.ntmps16
    go_wp2
    go_loopw [5, 1] (fun t s wr => ∃ k : Nat, k ≤ l.length ∧ t = .int .i64 k ∧ s = .int .i64 (k0 + k) ∧ wr.ownsRow base e 1 (.slice (some ⟨g, 0, none⟩) l.length cap) l.length ((marks k0 k ++ l.drop k).map (Value.int .i64)) ∧ w.grownBy wr (some g)) (fun t _ _ => l.length - (intOf t).toNat)
    case atStart => exact ⟨0, Nat.zero_le _, rfl, by simp, by simpa [marks] using hown, World.grownBy.refl _ _⟩
    case round =>
      obtain ⟨k, hk, rfl, rfl, hr, hgr⟩ := hrel
      by_cases hlt : k < l.length
      · have c0 : ∃ u, wr.cell? ⟨g, k, none⟩ = some u := by
          rw [hr.cellAt k (by omega)]
          exact ⟨_, List.getElem?_eq_getElem (by simp [marks]; omega)⟩
        obtain ⟨u, c0⟩ := c0
        have f0 := hr.frozenAt k
        have hst := hr.stored k (.int .i64 (k0 + k))
        have HS := Lib.hid hst
        have HG := Lib.hid hgr
        clear hst hr hgr hown
        go_wp2
        go_roundw
        case rel =>
          refine ⟨k + 1, by omega, by go_num, by go_num, ?_, ?_⟩
          · have := HS.out
            have eq1 : ((marks k0 k ++ l.drop k).map (Value.int .i64)).set k (.int .i64 (k0 + k)) = (marks k0 (k + 1) ++ l.drop (k + 1)).map (Value.int .i64) := by
              rw [marks_succ, List.drop_eq_getElem_cons hlt, List.map_append, List.set_append_right _ _ (by simp [marks_len]), List.map_cons]
              simp [marks_len]
            rw [eq1] at this
            exact this.1
          · have hg := HG.out
            exact ⟨hg.os, hg.tape, hg.output, by simpa [World.setCell] using hg.size, fun i hi hne => (Below.heap_setCell _ _ _ _ (by rintro rfl; exact hne rfl)).trans (hg.block i hi hne)⟩
        case measure => simp [intOf]; omega
      · obtain rfl : k = l.length := by omega
        go_wp2
        go_ret
        refine ⟨rfl, ?_, hgr⟩
        unfold OwnI Own
        rw [flat_icell, marks_len]
        simpa using hr
end Go.Proofs.YtjjflfoecdnegaaDoor
