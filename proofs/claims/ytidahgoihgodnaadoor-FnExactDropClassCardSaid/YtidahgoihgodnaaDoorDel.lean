/- slices.Delete on a row of the call's own. Printed by wip/tools/gen_del.py. -/
import Derived.Test.YtidahgoihgodnaaDoorCfgM
import Derived.Deep.RegionLaw
namespace Go.Proofs.YtidahgoihgodnaaDoor
open Go.RowKit
set_option maxRecDepth 20000
set_option maxHeartbeats 4000000
set_option linter.unusedSimpArgs false
set_option linter.unusedVariables false

/-- 'append(s[:n], x...)' within the capacity, the block known whole, as a step of a region that draws its order. -/
theorem step_append_row {P : Program} {ops : Array Oper} {o : Oper} {a : Act} {w : World} {K : Act → World → Prop} {Q : Exit → Act → World → Prop} {E : Prop}
    (hg : o.guard = none) (s x : Operand) (t : TypeId) (hop : o.op = Op.call { callee := Callee.builtin Builtin.append, args := #[s, x], argTypes := #[t, t] })
    (e : TypeId) (i : TypeInfo) (h1 : P.underlying t = some (.slice e)) (h2 : P.info? e = some i) (b n cap : Nat) (cur : Array Value) (hcur : w.heap[b]? = some (.cells cur e (0, 0))) (hs : a.eval s = .slice (some ⟨b, 0, none⟩) n cap)
    (ad : Addr) (m c : Nat) (news : List Value) (hx : a.eval x = .slice (some ad) m c) (hn : news.length = m * i.size) (hc : ∀ j u, news[j]? = some u → w.cell? (ad.add j) = some u) (h1c : ∀ u ∈ news, u.oneCell' = true)
    (hroom : n + m ≤ cap) (hfit : n * i.size + news.length ≤ cur.size)
    (hK : K (a.put o.dst (.slice (some ⟨b, 0, none⟩) (n + m) cap)) (w.setRow b (cur.toList.take (n * i.size) ++ news ++ cur.toList.drop (n * i.size + news.length)).toArray)) :
    if Region.wanted o (yielded ops a.tmps) = true then Oper.wp P o a w K Q else E := by
  have hw : Region.wanted o (yielded ops a.tmps) = true := by simp [Region.wanted, hg]
  rw [if_pos hw]
  have hrun := run_append_room (P := P) w t o.type e i h1 h2 b n cap cur hcur ad m c news hn hc h1c hroom hfit
  unfold Oper.wp
  simp only [List.append_assoc] at hK
  simp [execOp, hop, resolve, invoke, builtin, hs, hx, hrun, Result.andThen]
  exact hK
/-- 'clear(s)', the block known whole. -/
theorem run_clear_row {P : Program} (w : World) (t e : TypeId) (z : Value) (ht : P.underlying t = some (.slice e)) (hv : ∀ w, (zeroValue e).run P w = .ok z w) (h1 : ∀ u ∈ z.cells, u.oneCell' = true) (hz : 0 < z.cells.size)
    (b o n c : Nat) (hn : 0 < n) (cur : Array Value) (hcur : w.heap[b]? = some (.cells cur e (0, 0))) (hfit : o + n * z.cells.size ≤ cur.size) :
    ∃ news : List Value, news.length = n * z.cells.size ∧ ∀ ty, (Builtin.clear_ #[t] ty #[.slice (some ⟨b, o, none⟩) n c]).run P w = .ok (.tuple #[]) (w.setRow b (cur.toList.take o ++ news ++ cur.toList.drop (o + news.length)).toArray) := by
  have hl : (Builtin.zeroCells z.cells n).toList.length = n * z.cells.size := by simp [size_zeroCells]
  refine ⟨(Builtin.zeroCells z.cells n).toList, hl, fun ty => ?_⟩
  have hst := run_storeCells_at P b o e (Builtin.zeroCells z.cells n).toList 0 cur w hcur (by rw [hl]; simpa using hfit) (by
    intro v hv'
    simp only [Builtin.zeroCells, Array.toList_map, List.mem_map] at hv'
    obtain ⟨i, _, rfl⟩ := hv'
    have hlt : i % z.cells.size < z.cells.size := Nat.mod_lt _ hz
    rw [getElem!_pos z.cells _ hlt]
    exact h1 _ (Array.getElem_mem hlt))
  simp only [Nat.add_zero] at hst
  obtain ⟨m, rfl⟩ : ∃ m, n = m + 1 := ⟨n - 1, by omega⟩
  simp [Builtin.clear_, run_underlying ht, hv, hst]
theorem kb_setRow (w : World) (g : Nat) (cs : Array Value) : KB (fun k => k = g) w (w.setRow g cs) :=
  ⟨rfl, rfl, rfl, by simp, fun k _ hk => setRow_other w g k _ hk⟩
theorem zero_Class (w : World) : (zeroValue 47).run Tryd.prog w = .ok (clsV ⟨0, 0, 0, 0, 0, 0, 0, 0⟩) w := by kernel_rfl
theorem slices_Delete_any (cs D : List Cls) (g cap b i j m : Nat) (w : World) (h : OwnC w b (.slice (some ⟨g, 0, none⟩) cs.length cap) cs) (hij : i < j) (hj : j ≤ cs.length) (hl : cs.length ≤ 1048576) (hm : cs.length - (j - i) = m) (hD : cs.take i ++ cs.drop j = D) :
    Calls Tryd.prog 38 #[.slice (some ⟨g, 0, none⟩) cs.length cap, .int .i64 (i : Int), .int .i64 (j : Int)] w fun e w' =>
      e = .returned (.slice (some ⟨g, 0, none⟩) m cap) ∧ OwnC w' b (.slice (some ⟨g, 0, none⟩) m cap) D ∧ KB (fun k => k = g) w w' := by
  have HM := Lib.hid hm
  have HD := Lib.hid hD
  clear hm hD
  obtain ⟨i0, hi0, hz0, hz1, hz2⟩ := info_parts info_Class
  obtain ⟨g', cap', cur, hv, hb, hlt', hB, hnc, hcm, hcs, htake⟩ := Own.blk h (by omega)
  injection hv with hv1 _ hv3
  cases hv1
  subst hv3
  obtain ⟨news, hnews⟩ : ∃ news, news = (cs.drop j).flatMap Cls.cells := ⟨_, rfl⟩
  have hlen : news.length = (cs.length - j) * 8 := by rw [hnews, flat_length 8 _ Cls.len]; simp
  have hcell : ∀ k, k < cs.length * 8 → w.cell? ⟨g, k, none⟩ = (cs.flatMap Cls.cells)[k]? := fun k hk => by
    have hB' : w.heap[g]? = some (.cells cur 47 (0, 0)) := hB
    rw [cell_of_row w g k cur 47 (0, 0) hB', ← htake, List.getElem?_take, if_pos hk]
    simp
  have hdrop : (cs.flatMap Cls.cells).drop (j * 8) = news := by
    rw [hnews]
    conv => lhs; rw [← List.take_append_drop j cs]
    rw [List.flatMap_append, List.drop_append_of_le_length (by rw [flat_length 8 _ Cls.len]; simp; omega), List.drop_of_length_le (by rw [flat_length 8 _ Cls.len]; simp; omega), List.nil_append]
  obtain ⟨A, hA, hsrc⟩ : ∃ A : Addr, (if cap = j then some (⟨g, 0, none⟩ : Addr) else some ⟨g, j * 8, none⟩) = some A ∧ Hid (∀ t u, news[t]? = some u → w.drew.cell? (A.add t) = some u) := by
    by_cases hcj : cap = j
    · refine ⟨⟨g, 0, none⟩, by simp [hcj], fun t u hu => ?_⟩
      have h0 : news.length = 0 := by rw [hlen]; omega
      rw [List.length_eq_zero_iff.1 h0] at hu
      simp at hu
    · refine ⟨⟨g, j * 8, none⟩, by simp [hcj], fun t u hu => ?_⟩
      have ht : t < (cs.length - j) * 8 := by
        have := (List.getElem?_eq_some_iff.1 hu).1
        rwa [hlen] at this
      have e1 : ((⟨g, j * 8, none⟩ : Addr).add t) = ⟨g, j * 8 + t, none⟩ := by unfold Addr.add; split <;> simp_all
      rw [e1]
      show w.cell? _ = _
      rw [hcell (j * 8 + t) (by have := Nat.mul_sub_right_distrib cs.length j 8; omega), ← hu, ← hdrop, List.getElem?_drop]
  have s1 : Hid (news.length = (cs.length - j) * i0.size) := by rw [hz1]; exact Lib.hid hlen
  have s2 : Hid (∀ u ∈ news, u.oneCell' = true) := by
    intro u hu
    rw [hnews] at hu
    obtain ⟨x, _, hx⟩ := List.mem_flatMap.1 hu
    exact cls_one x u hx
  have hfit : i * i0.size + news.length ≤ cur.size := by rw [hz1, hcs, hlen]; omega
  have HF := Lib.hid hfit
  have hcur : w.drew.heap[g]? = some (.cells cur 47 (0, 0)) := hB
  have HCUR := Lib.hid hcur
  obtain ⟨cur1, HC1⟩ : ∃ c, Hid (c = (cur.toList.take (i * i0.size) ++ news ++ cur.toList.drop (i * i0.size + news.length)).toArray) := ⟨_, Lib.hid rfl⟩
  have hsz1 : cur1.size = cap * 8 := by
    rw [HC1.out]
    simp only [List.size_toArray, List.length_append, List.length_take, List.length_drop, Array.length_toList, hz1, hcs, hlen]
    omega
  obtain ⟨W1, HW1⟩ : ∃ W1, Hid (W1 = w.drew.setRow g cur1) := ⟨_, Lib.hid rfl⟩
  have hcur1 : W1.heap[g]? = some (.cells cur1 47 (0, 0)) := by rw [HW1.out]; exact setRow_heap _ _ _ _ _ _ hcur
  obtain ⟨zs, hzl, hcl⟩ : ∃ zs : List Value, zs.length = (j - i) * 8 ∧ ∀ ty, (Builtin.clear_ #[27] ty #[.slice (some ⟨g, (i + (cs.length - j)) * 8, none⟩) (cs.length - (i + (cs.length - j))) (cap - (i + (cs.length - j)))]).run Tryd.prog W1 =
      .ok (.tuple #[]) (W1.setRow g (cur1.toList.take ((i + (cs.length - j)) * 8) ++ zs ++ cur1.toList.drop ((i + (cs.length - j)) * 8 + zs.length)).toArray) := by
    obtain ⟨zs, h1, h2⟩ := run_clear_row (P := Tryd.prog) W1 27 47 _ Tryd.underlying27 zero_Class (fun u hu => cls_one ⟨0, 0, 0, 0, 0, 0, 0, 0⟩ u (by simpa [Value.cells, Cls.cells] using hu)) (by decide) g ((i + (cs.length - j)) * 8) (cs.length - (i + (cs.length - j))) (cap - (i + (cs.length - j))) (by omega) cur1 hcur1 (by rw [hsz1]; show _ + _ * 8 ≤ _; omega)
    exact ⟨zs, h1.trans (by show _ * 8 = _; omega), h2⟩
  have hDl : m = D.length := by rw [← HM.out, ← HD.out]; simp; omega
  have hmi : i + (cs.length - j) = m := by rw [← HM.out]; omega
  have hpre : cur.toList.take (i * 8) = (cs.take i).flatMap Cls.cells := by
    have e1 : (cs.flatMap Cls.cells).take (i * 8) = (cs.take i).flatMap Cls.cells := by
      conv => lhs; rw [← List.take_append_drop i cs]
      rw [List.flatMap_append, List.take_append_of_le_length (by rw [flat_length 8 _ Cls.len]; simp; omega), List.take_of_length_le (by rw [flat_length 8 _ Cls.len]; simp; omega)]
    rw [← e1, ← htake, List.take_take]
    congr 1
    omega
  have HFIN := Lib.hid (show OwnC (W1.setRow g (cur1.toList.take ((i + (cs.length - j)) * 8) ++ zs ++ cur1.toList.drop ((i + (cs.length - j)) * 8 + zs.length)).toArray) b (.slice (some ⟨g, 0, none⟩) m cap) D ∧ KB (fun k => k = g) w (W1.setRow g (cur1.toList.take ((i + (cs.length - j)) * 8) ++ zs ++ cur1.toList.drop ((i + (cs.length - j)) * 8 + zs.length)).toArray) by
    constructor
    · rw [hDl]
      refine Own.of_blk (setRow_heap W1 g cur1 _ 47 _ hcur1) hb (by omega) hcm ?_ ?_ Cls.len
      · simp only [List.size_toArray, List.length_append, List.length_take, List.length_drop, Array.length_toList, hsz1, hzl]
        omega
      · rw [hmi, hDl, List.append_assoc, List.take_append_of_le_length (by simp [hsz1]; omega), List.take_of_length_le (by simp; omega), HC1.out]
        show List.take _ (_ ++ _ ++ _) = _
        rw [hz1, List.take_append_of_le_length (by simp [hcs, hlen]; omega), List.take_of_length_le (by simp [hcs, hlen]; omega), hpre, hnews, ← List.flatMap_append, HD.out]
    · have k1 : KB (fun k => k = g) w W1 := by rw [HW1.out]; exact ⟨rfl, rfl, rfl, by simp, fun k _ hk => setRow_other w.drew g k _ hk⟩
      exact KB.mono (k1.trans (kb_setRow W1 g _)) (fun i hi => hi.elim id id))
  have HMI := Lib.hid hmi
  have HZL := Lib.hid hzl
  clear hzl hsz1 hcur1 hcur hfit hlen hnews hdrop hcell htake hcs h hDl hmi hpre
  have hic : i ≤ cap := by omega
  have hjc : j ≤ cap := by omega
  go_enter Tryd.func38, Tryd.ntmps38
  go_wp2_with fail
  go_region_law (refine step_append_row rfl (.tmp 22) (.tmp 25) 27 rfl 47 i0 Tryd.underlying27 hi0 g i cap cur HCUR.out (by simp [Act.eval, Act.put]) A (cs.length - j) (cap - j) news (by simp [Act.eval, Act.put, hA]) s1.out hsrc.out s2.out (by omega) HF.out ?_; rw [← HC1.out, ← HW1.out])
  go_wp2
  go_ret
  have hfin := HFIN.out
  simp only [List.append_assoc] at hfin
  exact ⟨by rw [HMI.out]; rfl, hfin⟩
end Go.Proofs.YtidahgoihgodnaaDoor
