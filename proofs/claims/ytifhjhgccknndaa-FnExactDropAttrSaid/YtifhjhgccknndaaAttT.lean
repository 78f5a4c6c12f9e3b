/- Contracts: children of attributes, wrapped attributes. -/
import Derived.Test.YtifhjhgccknndaaAttS
import Derived.Test.YtifhjhgccknndaaAttrN
namespace Go.Proofs.Ytifhjhgccknndaa
open Go.RowKit
set_option maxHeartbeats 1000000
set_option linter.unusedSimpArgs false
set_option linter.unusedVariables false

def dAt (l : List Att) (k : Nat) : Int := match l[k]? with
  | some x => x.depth
  | none => 0
theorem dAt_is (l : List Att) (k : Nat) (h : k < l.length) : dAt l k = l[k].depth := by simp [dAt, h]
/-- Of n indices from a on those with depth d + 1. -/
def kd (l : List Att) (d : Int) (a : Nat) : Nat → List Int
  | 0 => []
  | n + 1 => kd l d a n ++ (if dAt l (a + n) = d + 1 then [((a + n : Nat) : Int)] else [])
theorem kd_skip (l : List Att) (d : Int) (a n : Nat) : ∀ m, (∀ j, n ≤ j → j < n + m → dAt l (a + j) ≠ d + 1) → kd l d a (n + m) = kd l d a n
  | 0, _ => rfl
  | m + 1, h => by
    have ih := kd_skip l d a n m (fun j h1 h2 => h j h1 (by omega))
    rw [← Nat.add_assoc, kd, if_neg (h (n + m) (by omega) (by omega)), ih, List.append_nil]
theorem kd_len (l : List Att) (d : Int) (a : Nat) : ∀ n, (kd l d a n).length ≤ n
  | 0 => by simp [kd]
  | n + 1 => by
    have := kd_len l d a n
    unfold kd
    rw [List.length_append]
    split <;> simp <;> omega
def kids (l : List Att) (i : Nat) : List Int := kd l (dAt l i) (i + 1) (endN l i - (i + 1))
theorem kids_len (l : List Att) (i : Nat) (h : i < l.length) : (kids l i).length ≤ l.length := by
  have := kd_len l (dAt l i) (i + 1) (endN l i - (i + 1))
  have := endN_lt l i h
  unfold kids
  omega
def kidV (l : List Att) (i : Int) : List Int := if hasB l i then kids l i.toNat else []
theorem kidV_len (l : List Att) (i : Int) : (kidV l i).length ≤ l.length := by
  unfold kidV
  split
  · rename_i h
    obtain ⟨_, h0, h1⟩ := hasB_parts h
    exact kids_len l i.toNat (by omega)
  · simp

theorem impl_ChildrenOf_any (v : Value) (l : List Att) (i : Int) (w : World) (h : RdA w v l) (hl : l.length ≤ 1048576) :
    Calls Try.prog 43 #[v, .int .i64 i] w fun e w' => ∃ u, e = .returned (.tuple #[u, .bool (hasB l i)]) ∧ OwnI w' w.heap.size 3 u (kidV l i) ∧ Ext w w' := by
  have H := Lib.hid h
  by_cases hh : hasB l i = true
  · obtain ⟨hg, h0, h1⟩ := hasB_parts hh
    obtain ⟨n, rfl⟩ := Int.eq_ofNat_of_zero_le h0
    have hn : n < l.length := by omega
    have hl4 := (good_get hg).1
    have hdn := (good_get hg).2.2.2 l[n] (List.getElem_mem hn)
    obtain ⟨he0, he1⟩ := endN_lt l n hn
    have HV := Lib.hid (show kidV l n = kids l n by simp [kidV, hh])
    have hdA := dAt_is l n hn
    obtain ⟨A, c, rfl, hc, hrd⟩ := h
    have HR := Lib.hid hrd
    obtain ⟨b, o, rfl, hb, hcell⟩ := hrd n l[n] (List.getElem?_eq_getElem hn)
    generalize l[n] = x at hcell hdn hdA
    have HC := Lib.hid hcell
    have HDA := Lib.hid hdA
    obtain ⟨x0, x1, _⟩ := hdn
    have HG := Lib.hid hg
    clear hrd hcell hdA hg
    go_enter Try.func43, Try.ntmps43
    go_wp2_with fail
    refine (impl_isAttrOf_any _ l _ _ H.out hl).mono ?_
    rintro e w1 ⟨rfl, F1⟩
    rw [hh]
    go_wp2
    go_loopw [7, 6] (fun t s wr => ∃ k : Nat, n + 1 ≤ k ∧ k ≤ endN l n ∧ t = .int .i64 (k : Int) ∧ OwnI wr w.heap.size 3 s (kd l (dAt l n) (n + 1) (k - (n + 1))) ∧ Ext w wr) (fun t _ _ => l.length - (intOf t).toNat)
    case atStart => exact ⟨n + 1, Nat.le_refl _, by omega, by go_num, by rw [Nat.sub_self]; exact World.ownsRow_lit _ _ 0 (Ext.size F1) (by unfold maxLen; omega) rfl, F1.alloc _⟩
    case round =>
      obtain ⟨k, hk0, hk1, rfl, hown, hx⟩ := hrel
      have HO := Lib.hid hown
      clear hown
      go_wp2_with fail
      refine (impl_endOf_any _ l n _ (H.out.ext hx) (by omega) hn).mono ?_
      rintro e w2 ⟨rfl, F2⟩
      have E2 := hx.trans F2
      by_cases hlt : k < endN l n
      · have hkl : k < l.length := by omega
        obtain ⟨b', o', hA, hb', hcell'⟩ := HR.out k l[k] (List.getElem?_eq_getElem hkl)
        simp only [Option.some.injEq, Addr.mk.injEq, and_true] at hA
        obtain ⟨rfl, rfl⟩ := hA
        have hdk := dAt_is l k hkl
        generalize l[k] = y at hcell' hdk
        have c0 : w2.cell? ⟨b, o + n * 4, none⟩ = some (.int .i64 x.depth) := by rw [Ext.cell E2 hb]; exact HC.out 0 _ rfl
        have c1 : w2.cell? ⟨b, o + k * 4, none⟩ = some (.int .i64 y.depth) := by rw [Ext.cell E2 hb']; exact hcell' 0 _ rfl
        have z0 : b < w2.heap.size := Ext.lts E2 _ hb
        have HDK := Lib.hid hdk
        have hsu : k + 1 - (n + 1) = (k - (n + 1)) + 1 := by omega
        have hka : n + 1 + (k - (n + 1)) = k := by omega
        have HN := Lib.hid (show kd l (dAt l n) (n + 1) (k + 1 - (n + 1)) = kd l (dAt l n) (n + 1) (k - (n + 1)) ++ (if y.depth = x.depth + 1 then [((k : Nat) : Int)] else []) by
          rw [hsu, kd, hka, HDK.out, HDA.out])
        have hln : (kd l (dAt l n) (n + 1) (k - (n + 1))).length ≤ 10000000 := by have := kd_len l (dAt l n) (n + 1) (k - (n + 1)); omega
        have HLN := Lib.hid hln
        clear hln
        have sw : IntKind.i64.wrap (x.depth + 1) = x.depth + 1 := IntWalk.i64_in _ (by omega)
        clear hcell' hdk hsu hka
        by_cases hq : y.depth = x.depth + 1
        · have hq' : (y.depth == x.depth + 1) = true := by simp [hq]
          have HQ := Lib.hid hq
          clear hq
          (go_wp2_with fail; refine wp_region_ext (by kernel_rfl) (by kernel_rfl) ?_; (repeat (first | go_big_quiet_step (fail) | quiet_step (fail))); refine wpQuiet_nil ?_; intro wq hbq; have hcq := Ext.cells hbq; have hzq := Ext.frozens hbq; have hsq := Ext.lts hbq)
          clear sw
          go_wp2_with (at_builtin; refine app_int (Own.ext HO.out (F2.trans hbq)) HLN.out (hx.trans (F2.trans hbq)) rfl rfl rfl rfl ?_; intro v1 w3 hown1 hx3)
          have HO1 := Lib.hid hown1
          clear hown1
          go_wp2
          go_roundw
          case rel => exact ⟨k + 1, by omega, by omega, by go_num, by rw [HN.out, if_pos HQ.out]; exact HO1.out, hx3⟩
          case measure => simp [intOf]; omega
        · have hq' : (y.depth == x.depth + 1) = false := by simp [hq]
          have HQ := Lib.hid hq
          clear hq
          (go_wp2_with fail; refine wp_region_ext (by kernel_rfl) (by kernel_rfl) ?_; (repeat (first | go_big_quiet_step (fail) | quiet_step (fail))); refine wpQuiet_nil ?_; intro wq hbq; have hcq := Ext.cells hbq; have hzq := Ext.frozens hbq; have hsq := Ext.lts hbq)
          clear sw
          go_wp2
          go_roundw
          case rel => exact ⟨k + 1, by omega, by omega, by go_num, by rw [HN.out, if_neg HQ.out, List.append_nil]; exact Own.ext HO.out (F2.trans hbq), hx.trans (F2.trans hbq)⟩
          case measure => simp [intOf]; omega
      · obtain rfl : k = endN l n := by omega
        go_wp2
        go_ret2
        exact ⟨_, by rw [hh]; rfl, by rw [HV.out]; exact Own.ext HO.out F2, E2⟩
  · replace hh : hasB l i = false := by simpa using hh
    have HV := Lib.hid (show kidV l i = [] by simp [kidV, hh])
    clear h
    go_enter Try.func43, Try.ntmps43
    go_wp2_with fail
    refine (impl_isAttrOf_any _ l _ _ H.out hl).mono ?_
    rintro e w1 ⟨rfl, F1⟩
    rw [hh]
    go_wp2
    go_ret2
    exact ⟨_, by rw [hh]; rfl, by rw [HV.out]; exact nil_own _ _ _, F1⟩
end Go.Proofs.Ytifhjhgccknndaa
