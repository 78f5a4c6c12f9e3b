/- Contracts: the first attribute with types on its way down. -/
import Derived.Test.YtifhjhgccknndaaAttU
import Derived.Test.YtifhjhgccknndaaOpen
import Derived.ChangeSlices
namespace Go.Proofs.Ytifhjhgccknndaa
open Go.RowKit
set_option maxHeartbeats 1000000
set_option linter.unusedSimpArgs false
set_option linter.unusedVariables false

open Go.WideShapes Go.ChangeShapes Go.Deep in
theorem open_IntS {H : Type} {enc : TypeId × Value → H} {W : World} {v : Value} {d : DataW H} {p : List MemPlace} {fuel : Nat} (hval : ∃ a len cap, v = .slice a len cap)
    (hf : DataW.trod enc Try.prog W 0 (fun _ => true) true fuel 48 [v] = some (d, p)) : ∃ l : List Int, RdI W v l ∧ l.length ≤ maxLen := by
  obtain ⟨a0, len, cap, rfl⟩ := hval
  rcases open_ints Try.underlying48 Try.underlying3 (by kernel_rfl) hf with ⟨hcs, _⟩ | ⟨a, len', cap', zs, hcs, _, hl, hm, hzl, _, hc, _⟩
  · simp at hcs
    obtain ⟨rfl, rfl, rfl⟩ := hcs
    exact ⟨[], ⟨none, 0, rfl, by simp, by simp⟩, by simp⟩
  · simp at hcs
    obtain ⟨rfl, rfl, rfl⟩ := hcs
    have hz : zs.length = cap := by simpa using hzl
    have key : ∀ i, ∃ x : Int, i < len → (True ∧ ∀ j u, (icell x)[j]? = some u → W.cell? (a.add (i * 1 + j)) = some u) := fun i => ⟨zs.getD i 0, fun hi => ⟨trivial, fun j u hj => by
      match j, hj with
      | 0, hj =>
        simp [icell] at hj
        subst hj
        simpa using hc i (by omega)
      | j + 1, hj => simp [icell] at hj⟩⟩
    obtain ⟨l, hll, h1, _⟩ := rd_of_key hl (by omega) icell_len key
    exact ⟨l, h1, by omega⟩

theorem laws_toIntS_any (v : Value) (l : List Int) (w : World) (h : RdI w v l) (hl : l.length ≤ 1048576) :
    Calls Try.prog 39 #[v] w fun e w' => ∃ u, e = .returned u ∧ OwnI w' w.heap.size 3 u l ∧ Ext w w' := by
  obtain ⟨A, c, rfl, hc, hrd⟩ := h
  have HR := Lib.hid hrd
  clear hrd
  obtain ⟨cs0, hcs0, hmk⟩ : ∃ cs0 : Array Value, cs0.size = l.length * 1 ∧ ∀ W : World, (Instr.makeSlice 48 (.int .i64 (l.length : Int)) (.int .i64 (l.length : Int))).run Try.prog W = .ok (.slice (some ⟨W.heap.size, 0, none⟩) l.length l.length) (W.alloc (.cells cs0 3)) := by
    obtain ⟨i0, ii0, ii1, ii2, ii3⟩ := info_parts info_int
    exact ⟨_, by rw [size_madeCells, ii2], fun W => run_make_rowN (P := Try.prog) 48 3 i0 _ Try.underlying48 ii0 ii1 .i64 .i64 l.length (by rw [ii3]; omega) (by omega) W⟩
  have HC0 := Lib.hid hcs0
  clear hcs0
  go_enter Try.func39, Try.ntmps39
  go_wp2
  clear hmk
  go_loopw [4] (fun t wr => ∃ j : Nat, j ≤ l.length ∧ t = .int .i64 j ∧ (∃ cs : Array Value, Hid (Blk wr w.heap.size 3 cs ∧ cs.size = l.length * 1 ∧ cs.toList.take j = (l.take j).flatMap icell)) ∧ Ext w wr) (fun t _ => l.length - (intOf t).toNat)
  case atStart => exact ⟨0, Nat.zero_le _, rfl, ⟨cs0, Blk.new _ _ _, HC0.out, by simp⟩, (Ext.refl _).alloc _⟩
  case round =>
    obtain ⟨j, hj, rfl, ⟨cs, hcs⟩, hx⟩ := hrel
    by_cases hlt : j < l.length
    · obtain ⟨b, o, rfl, hb, hcell⟩ := HR.out j l[j] (List.getElem?_eq_getElem hlt)
      obtain ⟨x, hxe⟩ : ∃ x, x = l[j] := ⟨_, rfl⟩
      rw [← hxe] at hcell
      have HX := Lib.hid hxe
      clear hxe
      have c0 : wr.cell? ⟨b, o + j, none⟩ = some (.int .i64 x) := by rw [Ext.cell hx hb]; simpa using hcell 0 _ rfl
      clear hcell
      have hsz : j < cs.size := by rw [hcs.out.2.1]; omega
      obtain ⟨u0, d0⟩ := hcs.out.1.cell j hsz
      have f0 := hcs.out.1.frozen j
      go_wp2
      go_roundw
      case rel =>
        refine ⟨j + 1, by omega, by go_num, ⟨_, hcs.out.1.set_ j _, by simpa using hcs.out.2.1, ?_⟩, ?_⟩
        · have t1 := take_set_next (m := j) (by simpa using hsz) hcs.out.2.2 (.int .i64 x)
          rw [List.take_succ_eq_append_getElem hlt, ← HX.out, List.flatMap_append]
          simpa [icell] using t1
        · (repeat (first | (with_reducible exact Ext.refl _) | (with_reducible assumption) | (with_reducible apply Ext.alloc) | (with_reducible apply Ext.drew) | (with_reducible apply Ext.drewN) | ((with_reducible refine Ext.setCell ?_ ?_ _); rotate_left; (focus (first | (simp; done) | (simp; omega) | omega))) | (with_reducible refine Ext.trans ?_ (by assumption))))
      case measure => simp [intOf]; omega
    · obtain rfl : j = l.length := by omega
      go_wp2
      go_ret
      refine ⟨_, rfl, Own.of_blk hcs.out.1 (Nat.le_refl _) (Nat.le_refl _) (by unfold maxLen; omega) hcs.out.2.1 (by have := hcs.out.2.2; rw [List.take_length] at this; simpa using this) icell_len, hx⟩

def tAt (l : List Att) (k : Nat) : Int := match l[k]? with
  | some x => x.type
  | none => 0
theorem tAt_is (l : List Att) (k : Nat) (h : k < l.length) : tAt l k = l[k].type := by simp [tAt, h]
/-- The attribute at i, d deep, and its parents have the first d types. -/
def chain (l : List Att) (ts : List Int) : Nat → Nat → Bool
  | 0, _ => true
  | d + 1, i => (tAt l i == ts.getD d 0) && chain l ts d (parI l i).toNat
def isAt (l : List Att) (ts : List Int) (i : Nat) : Bool := (dAt l i == (ts.length : Int)) && chain l ts ts.length i
/-- The first index from k on with a property, of m. -/
def fnd (p : Nat → Bool) : Nat → Nat → Int
  | _, 0 => -1
  | k, m + 1 => if p k then (k : Int) else fnd p (k + 1) m
theorem fnd_step (p : Nat → Bool) (k n : Nat) (h : k < n) : fnd p k (n - k) = if p k then (k : Int) else fnd p (k + 1) (n - (k + 1)) := by
  obtain ⟨m, hm⟩ : ∃ m, n - k = m + 1 := ⟨n - k - 1, by omega⟩
  rw [hm, fnd, show n - (k + 1) = m by omega]
theorem par_depth {l : List Att} (hg : goodB l = true) (i : Nat) (hi : i < l.length) :
    (dAt l i = 1 → parI l i = -1) ∧ (1 < dAt l i → ∃ u : Nat, parI l i = u ∧ u < l.length ∧ dAt l u = dAt l i - 1) := by
  obtain ⟨_, hg0, hs, hm⟩ := good_get hg
  rw [dAt_is l i hi]
  have hj := parI_just hg i hi
  refine ⟨fun h => ?_, fun h => ?_⟩
  · rw [← hj]
    have hbd := prevP_bd (justD l[i].depth) l i
    by_cases e : prevP (justD l[i].depth) l i = -1
    · exact e
    · exfalso
      obtain ⟨u, hu⟩ := Int.eq_ofNat_of_zero_le (show 0 ≤ prevP (justD l[i].depth) l i by omega)
      obtain ⟨h1, h2, _⟩ := (prevP_spec _ l i (by omega)).2 u hu
      have h3 := h2 (by omega)
      have h4 := (hm l[u] (List.getElem_mem (by omega))).1
      simp [justD] at h3
      omega
  · have hbd := prevP_bd (justD l[i].depth) l i
    by_cases e : prevP (justD l[i].depth) l i = -1
    · exfalso
      rw [hj, parI_is l i hi] at e
      have h0 := (prevP_spec _ l i (by omega)).1 e
      have h1 := hg0 l[0] (List.getElem?_eq_getElem (by omega))
      by_cases e0 : i = 0
      · subst e0; omega
      · have := h0 0 (by omega) (by omega)
        simp [lessD] at this
        omega
    · obtain ⟨u, hu⟩ := Int.eq_ofNat_of_zero_le (show 0 ≤ prevP (justD l[i].depth) l i by omega)
      obtain ⟨h1, h2, _⟩ := (prevP_spec _ l i (by omega)).2 u hu
      have h3 := h2 (by omega)
      simp [justD] at h3
      exact ⟨u, by rw [← hj]; exact hu, by omega, by rw [dAt_is l u (by omega)]; omega⟩
/-- One step up the chain. -/
theorem chain_step {l : List Att} {ts : List Int} (m i : Nat) (h : (tAt l i == ts.getD m 0) = true) : chain l ts (m + 1) i = chain l ts m (parI l i).toNat := by
  rw [chain, h]; simp
theorem chain_stop {l : List Att} {ts : List Int} (m i : Nat) (h : (tAt l i == ts.getD m 0) = false) : chain l ts (m + 1) i = false := by
  rw [chain, h]; simp
def faB (l : List Att) (ts : List Int) : Bool := goodB l && inR (ts.length : Int) 1 8 && inAll 0 32767 ts
def faI (l : List Att) (ts : List Int) : Int := if faB l ts then fnd (isAt l ts) 0 l.length else -1
def faV (l : List Att) (ts : List Int) : Int := if faI l ts < 0 then 0 else faI l ts
theorem fnd_bd (p : Nat → Bool) : ∀ (m k : Nat), fnd p k m = -1 ∨ ((k : Int) ≤ fnd p k m)
  | 0, k => .inl rfl
  | m + 1, k => by
    unfold fnd
    split
    · exact .inr (by omega)
    · rcases fnd_bd p m (k + 1) with h | h
      · exact .inl h
      · exact .inr (by omega)

theorem spec_tvIs_any (v : Value) (l : List Att) (i : Nat) (tv : Value) (ts : List Int) (w : World) (h : RdA w v l) (ht : RdI w tv ts) (hg : goodB l = true) (hi : i < l.length) (hn : ts.length ≤ 8) :
    Calls Try.prog 77 #[v, .int .i64 (i : Int), tv] w fun e w' => e = .returned (.bool (isAt l ts i)) ∧ Ext w w' := by
  have H := Lib.hid h
  have hl4 := (good_get hg).1
  obtain ⟨A, c, rfl, hc, hrd⟩ := h
  obtain ⟨B, d, rfl, hd, hrt⟩ := ht
  have HR := Lib.hid hrd
  have HT := Lib.hid hrt
  have HG := Lib.hid hg
  obtain ⟨b, o, rfl, hb, hcell⟩ := hrd i l[i] (List.getElem?_eq_getElem hi)
  have hdi := dAt_is l i hi
  have c0 : w.cell? ⟨b, o + i * 4, none⟩ = some (.int .i64 (l[i].depth)) := hcell 0 _ rfl
  rw [← hdi] at c0
  clear hrd hrt hg hcell
  by_cases hdep : dAt l i = (ts.length : Int)
  · have HV := Lib.hid (show isAt l ts i = chain l ts ts.length i by simp [isAt, hdep])
    have hq : (dAt l i != (ts.length : Int)) = false := by simp [hdep]
    have HDP := Lib.hid hdep
    clear hdep hdi
    go_enter Try.func77, Try.ntmps77
    go_wp2
    clear c0 hq
    go_loopw [7, 1] (fun t s wr => ∃ (q : Int) (j : Nat), -1 ≤ q ∧ q < ts.length ∧ t = .int .i64 q ∧ s = .int .i64 (j : Int) ∧ Hid (isAt l ts i = chain l ts (q + 1).toNat j) ∧ Hid (0 ≤ q → j < l.length ∧ dAt l j = q + 1) ∧ Ext w wr) (fun t _ _ => (intOf t + 1).toNat)
    case atStart => exact ⟨(ts.length : Int) - 1, i, by omega, by omega, rfl, rfl, by show _ = _; rw [HV.out, show ((ts.length : Int) - 1 + 1).toNat = ts.length by omega], fun _ => ⟨hi, by rw [HDP.out]; omega⟩, Ext.refl _⟩
    case round =>
      obtain ⟨q, j, hq0, hq1, rfl, rfl, hch, hdj, hx⟩ := hrel
      by_cases hpos : 0 ≤ q
      · obtain ⟨m, rfl⟩ := Int.eq_ofNat_of_zero_le hpos
        obtain ⟨hjl, hjd⟩ := hdj.out hpos
        have hm : m < ts.length := by omega
        obtain ⟨b1, o1, hA, hb1, hcell1⟩ := HR.out j l[j] (List.getElem?_eq_getElem hjl)
        simp only [Option.some.injEq, Addr.mk.injEq, and_true] at hA
        obtain ⟨rfl, rfl⟩ := hA
        obtain ⟨b2, o2, rfl, hb2, hcell2⟩ := HT.out m ts[m] (List.getElem?_eq_getElem hm)
        have htj := tAt_is l j hjl
        have hts : ts.getD m 0 = ts[m] := by simp [hm]
        have c1 : wr.cell? ⟨b, o + j * 4 + 1, none⟩ = some (.int .i64 (l[j].type)) := by rw [Ext.cell hx hb]; exact hcell1 1 _ rfl
        have c2 : wr.cell? ⟨b2, o2 + m, none⟩ = some (.int .i64 (ts[m])) := by rw [Ext.cell hx hb2]; simpa using hcell2 0 _ rfl
        rw [← htj] at c1
        rw [← hts] at c2
        have z0 : b < wr.heap.size := Ext.lts hx _ hb
        have z1 : b2 < wr.heap.size := Ext.lts hx _ hb2
        have e0 : ((m : Int) + 1).toNat = m + 1 := by omega
        have HC := Lib.hid (show isAt l ts i = chain l ts (m + 1) j by have := hch.out; rwa [e0] at this)
        have HJD := Lib.hid hjd
        clear hcell1 hcell2 htj hts e0 hch hjd hdj
        generalize hx1 : tAt l j = a1 at c1
        generalize hx2 : ts.getD m 0 = a2 at c2
        by_cases heq : a1 = a2
        · have hqq : (a1 != a2) = false := by simp [heq]
          have HS := Lib.hid (chain_step (l := l) (ts := ts) m j (by rw [hx1, hx2, heq]; simp))
          clear heq hx1 hx2
          by_cases hm0 : 0 < m
          · obtain ⟨u, hu, hul, hud⟩ := (par_depth HG.out j hjl).2 (by rw [HJD.out]; omega)
            have HU := Lib.hid hu
            have HUD := Lib.hid hud
            clear hu hud
            (go_wp2_with fail; refine wp_region_ext (by kernel_rfl) (by kernel_rfl) ?_; (repeat (first | go_big_quiet_step (fail) | quiet_step (fail))); refine wpQuiet_nil ?_; intro wq hbq; have hcq := Ext.cells hbq; have hzq := Ext.frozens hbq; have hsq := Ext.lts hbq)
            go_wp2_with fail
            refine (spec_tvParent_any _ l j _ (H.out.ext (hx.trans hbq)) (by omega) hjl HG.out).mono ?_
            rintro e w2 ⟨rfl, F2⟩
            rw [HU.out]
            go_wp2
            go_roundw
            case rel => exact ⟨(m : Int) - 1, u, by omega, by omega, by first | rfl | go_num, rfl, by show _ = _; rw [HC.out, HS.out, HU.out, show ((m : Int) - 1 + 1).toNat = m by omega]; rfl, fun _ => ⟨hul, by rw [HUD.out, HJD.out]; omega⟩, (hx.trans hbq).trans F2⟩
            case measure => first | (simp [intOf]; done) | (simp [intOf]; omega)
          · obtain rfl : m = 0 := by omega
            rw [Nat.add_zero] at c2
            (go_wp2_with fail; refine wp_region_ext (by kernel_rfl) (by kernel_rfl) ?_; (repeat (first | go_big_quiet_step (fail) | quiet_step (fail))); refine wpQuiet_nil ?_; intro wq hbq; have hcq := Ext.cells hbq; have hzq := Ext.frozens hbq; have hsq := Ext.lts hbq)
            go_wp2
            go_roundw
            case rel => exact ⟨-1, j, by omega, by omega, by first | rfl | go_num, rfl, by show _ = _; rw [HC.out, HS.out]; rfl, fun h => absurd h (by omega), hx.trans hbq⟩
            case measure => first | (simp [intOf]; done) | (simp [intOf]; omega)
        · have hqq : (a1 != a2) = true := by simp [heq]
          have HS := Lib.hid (chain_stop (l := l) (ts := ts) m j (by rw [hx1, hx2]; simp [heq]))
          clear heq hx1 hx2
          (go_wp2_with fail; refine wp_region_ext (by kernel_rfl) (by kernel_rfl) ?_; (repeat (first | go_big_quiet_step (fail) | quiet_step (fail))); refine wpQuiet_nil ?_; intro wq hbq; have hcq := Ext.cells hbq; have hzq := Ext.frozens hbq; have hsq := Ext.lts hbq)
          go_wp2
          go_ret
          exact ⟨by rw [HC.out, HS.out]; rfl, hx.trans hbq⟩
      · have hq : q = -1 := by omega
        subst hq
        go_wp2
        go_ret
        exact ⟨by rw [hch.out]; rfl, hx⟩
  · have HV := Lib.hid (show isAt l ts i = false by simp [isAt, hdep])
    have hq : (dAt l i != (ts.length : Int)) = true := by simp [hdep]
    have HDP := Lib.hid hdep
    clear hdep hdi
    go_enter Try.func77, Try.ntmps77
    go_wp2
    go_ret
    exact ⟨by rw [HV.out]; rfl, Ext.refl _⟩
theorem spec_FindAttr_any (v : Value) (l : List Att) (tv : Value) (ts : List Int) (w : World) (h : RdA w v l) (hl : l.length ≤ 1048576) (ht : RdI w tv ts) (htl : ts.length ≤ 1048576) :
    Calls Try.prog 38 #[v, tv] w fun e w' => e = .returned (.tuple #[.int .i64 (faV l ts), .bool (decide (0 ≤ faI l ts))]) ∧ Ext w w' := by
  have H := Lib.hid h
  have HT := Lib.hid ht
  obtain ⟨A, c, rfl, hc, _⟩ := h
  obtain ⟨B, d, rfl, hd, _⟩ := ht
  by_cases hg : goodB l = true
  · have HG := Lib.hid hg
    clear hg
    by_cases hn : inR (ts.length : Int) 1 8 = true
    · have hn' := inR_iff.1 hn
      by_cases ha : inAll 0 32767 ts = true
      · have HI := Lib.hid (show faI l ts = fnd (isAt l ts) 0 (l.length - 0) by simp [faI, faB, HG.out, hn, ha])
        go_enter Try.func38, Try.ntmps38
        go_wp2_with fail
        refine (spec_tvGood_any _ l _ H.out hl).mono ?_
        rintro e w1 ⟨rfl, E1⟩
        rw [HG.out]
        go_wp2_with (go_at_call 75; refine (spec_l1In_any _ _ _ _ ).mono ?_; rintro e w' ⟨rfl, rfl⟩)
        refine (spec_l1All_any _ ts _ _ _ (HT.out.ext E1) htl).mono ?_
        rintro e w2 ⟨rfl, F2⟩
        have E2 := E1.trans F2
        rw [ha]
        go_wp2
        go_loopw [23] (fun t wr => ∃ k : Nat, k ≤ l.length ∧ t = .int .i64 (k : Int) ∧ Hid (faI l ts = fnd (isAt l ts) k (l.length - k)) ∧ Ext w wr) (fun t _ => l.length - (intOf t).toNat)
        case atStart => exact ⟨0, Nat.zero_le _, rfl, HI.out, E2⟩
        case round =>
          obtain ⟨k, hk, rfl, hf, hx⟩ := hrel
          by_cases hlt : k < l.length
          · have HS := Lib.hid (fnd_step (isAt l ts) k l.length hlt)
            go_wp2_with fail
            refine (spec_tvIs_any _ l k _ ts _ (H.out.ext hx) (HT.out.ext hx) HG.out hlt (by omega)).mono ?_
            rintro e w3 ⟨rfl, F3⟩
            by_cases hp : isAt l ts k = true
            · have HK := Lib.hid (show faI l ts = k by rw [hf.out, HS.out, hp]; rfl)
              rw [hp]
              go_wp2
              go_ret2
              exact ⟨by unfold faV; rw [HK.out, if_neg (by omega), decide_eq_true (by omega)]; rfl, hx.trans F3⟩
            · replace hp : isAt l ts k = false := by simpa using hp
              have HK := Lib.hid (show faI l ts = fnd (isAt l ts) (k + 1) (l.length - (k + 1)) by rw [hf.out, HS.out, hp]; rfl)
              rw [hp]
              go_wp2
              go_roundw
              case rel => exact ⟨k + 1, by omega, by go_num, HK.out, hx.trans F3⟩
              case measure => simp [intOf]; omega
          · obtain rfl : k = l.length := by omega
            have HK := Lib.hid (show faI l ts = -1 by rw [hf.out, Nat.sub_self]; rfl)
            go_wp2
            go_ret2
            exact ⟨by unfold faV; rw [HK.out]; rfl, hx⟩
      · replace ha : inAll 0 32767 ts = false := by simpa using ha
        have HK := Lib.hid (show faI l ts = -1 by simp [faI, faB, ha])
        go_enter Try.func38, Try.ntmps38
        go_wp2_with fail
        refine (spec_tvGood_any _ l _ H.out hl).mono ?_
        rintro e w1 ⟨rfl, E1⟩
        rw [HG.out]
        go_wp2_with (go_at_call 75; refine (spec_l1In_any _ _ _ _ ).mono ?_; rintro e w' ⟨rfl, rfl⟩)
        refine (spec_l1All_any _ ts _ _ _ (HT.out.ext E1) htl).mono ?_
        rintro e w2 ⟨rfl, F2⟩
        have E2 := E1.trans F2
        rw [ha]
        go_wp2
        go_ret2
        exact ⟨by unfold faV; rw [HK.out]; rfl, E2⟩
    · replace hn : inR (ts.length : Int) 1 8 = false := by simpa using hn
      have HK := Lib.hid (show faI l ts = -1 by simp [faI, faB, hn])
      go_enter Try.func38, Try.ntmps38
      go_wp2_with fail
      refine (spec_tvGood_any _ l _ H.out hl).mono ?_
      rintro e w1 ⟨rfl, E1⟩
      rw [HG.out]
      go_wp2_with (go_at_call 75; refine (spec_l1In_any _ _ _ _ ).mono ?_; rintro e w' ⟨rfl, rfl⟩)
      go_ret2
      exact ⟨by unfold faV; rw [HK.out]; rfl, E1⟩
  · replace hg : goodB l = false := by simpa using hg
    have HK := Lib.hid (show faI l ts = -1 by simp [faI, faB, hg])
    go_enter Try.func38, Try.ntmps38
    go_wp2_with fail
    refine (spec_tvGood_any _ l _ H.out hl).mono ?_
    rintro e w1 ⟨rfl, E1⟩
    rw [hg]
    go_wp2
    go_ret2
    exact ⟨by unfold faV; rw [HK.out]; rfl, E1⟩

theorem impl_FindAttr_any (v : Value) (l : List Att) (tv : Value) (ts : List Int) (w : World) (h : RdA w v l) (hl : l.length ≤ 1048576) (ht : RdI w tv ts) (htl : ts.length ≤ 1048576) :
    Calls Try.prog 40 #[v, tv] w fun e w' => e = .returned (.tuple #[.int .i64 (faV l ts), .bool (decide (0 ≤ faI l ts))]) ∧ Ext w w' := by
  have H := Lib.hid h
  obtain ⟨A, c, rfl, hc, hrd⟩ := h
  obtain ⟨B, d, rfl, hd, hrt⟩ := ht
  have HR := Lib.hid hrd
  have HT := Lib.hid hrt
  clear hrd hrt
  by_cases hg : goodB l = true
  · have HG := Lib.hid hg
    have hl4 := (good_get hg).1
    clear hg
    by_cases hn : 1 ≤ ts.length ∧ ts.length ≤ 8
    · obtain ⟨n1, n8⟩ := hn
      have HB := Lib.hid (show faB l ts = inAll 0 32767 ts by simp [faB, HG.out, inR]; omega)
      go_enter Try.func40, Try.ntmps40
      go_wp2_with fail
      refine (impl_AreAttrs_any _ l _ H.out hl).mono ?_
      rintro e w1 ⟨rfl, E1⟩
      rw [HG.out]
      go_wp2
      go_loopw [26] (fun t wr => ∃ k : Nat, k ≤ ts.length ∧ t = .int .i64 (k : Int) ∧ Hid (inAll 0 32767 ts = inAll 0 32767 (ts.drop k)) ∧ Ext w wr) (fun t _ => ts.length - (intOf t).toNat)
      case atStart => exact ⟨0, Nat.zero_le _, rfl, rfl, E1⟩
      case round =>
        obtain ⟨k, hk, rfl, hf, hx⟩ := hrel
        by_cases hlt : k < ts.length
        · obtain ⟨b, o, rfl, hb, hcell⟩ := HT.out k ts[k] (List.getElem?_eq_getElem hlt)
          have hst := inAll_step 0 32767 ts k hlt
          generalize ts[k] = x at hcell hst
          have HST := Lib.hid hst
          have c0 : wr.cell? ⟨b, o + k, none⟩ = some (.int .i64 x) := by rw [Ext.cell hx hb]; simpa using hcell 0 _ rfl
          clear hcell hst
          by_cases hr : 0 ≤ x ∧ x ≤ 32767
          · obtain ⟨r0, r1⟩ := hr
            have HR1 := Lib.hid (show inR x 0 32767 = true from inR_iff.2 ⟨r0, r1⟩)
            go_wp2
            go_roundw
            case rel => exact ⟨k + 1, by omega, by go_num, by have := hf.out; rw [HST.out, HR1.out] at this; show _ = _; simpa using this, hx⟩
            case measure => simp [intOf]; omega
          · have HR1 := Lib.hid (show inR x 0 32767 = false from inR_not.2 hr)
            have HK := Lib.hid (show faI l ts = -1 by have := hf.out; rw [HST.out, HR1.out] at this; simp [faI, HB.out, this])
            go_wp2
            all_goals (go_ret2; exact ⟨by unfold faV; rw [HK.out]; rfl, hx⟩)
        · obtain rfl : k = ts.length := by omega
          have HI := Lib.hid (show faI l ts = fnd (isAt l ts) 0 (l.length - 0) by have := hf.out; rw [List.drop_length] at this; simp [faI, HB.out, this, inAll])
          clear hf
          go_wp2
          go_loopw [39] (fun t wr => ∃ k : Nat, k ≤ l.length ∧ t = .int .i64 (k : Int) ∧ Hid (faI l ts = fnd (isAt l ts) k (l.length - k)) ∧ Ext w wr) (fun t _ => l.length - (intOf t).toNat)
          case atStart => exact ⟨0, Nat.zero_le _, rfl, HI.out, hx⟩
          case round =>
            obtain ⟨k, hk, rfl, hf, hx⟩ := hrel
            by_cases hlt : k < l.length
            · have HS := Lib.hid (fnd_step (isAt l ts) k l.length hlt)
              obtain ⟨b, o, rfl, hb, hcell⟩ := HR.out k l[k] (List.getElem?_eq_getElem hlt)
              have hdk := dAt_is l k hlt
              have c0 : wr.cell? ⟨b, o + k * 4, none⟩ = some (.int .i64 (l[k].depth)) := by rw [Ext.cell hx hb]; exact hcell 0 _ rfl
              have c1 : wr.cell? ⟨b, o + k * 4 + 1, none⟩ = some (.int .i64 (l[k].type)) := by rw [Ext.cell hx hb]; exact hcell 1 _ rfl
              have c2 : wr.cell? ⟨b, o + k * 4 + 2, none⟩ = some (.bool (l[k].nested)) := by rw [Ext.cell hx hb]; exact hcell 2 _ rfl
              have c3 : wr.cell? ⟨b, o + k * 4 + 3, none⟩ = some (.string (l[k].data)) := by rw [Ext.cell hx hb]; exact hcell 3 _ rfl
              rw [← hdk] at c0
              generalize l[k].type = y1 at c1
              generalize l[k].nested = y2 at c2
              generalize l[k].data = y3 at c3
              clear hcell hdk
              by_cases hdep : dAt l k = (ts.length : Int)
              · have hq : (dAt l k != (ts.length : Int)) = false := by simp [hdep]
                have HV := Lib.hid (show isAt l ts k = chain l ts ts.length k by simp [isAt, hdep])
                have HDP := Lib.hid hdep
                clear hdep
                obtain ⟨wo, rfl⟩ : ∃ wo : World, wo = wr := ⟨_, rfl⟩
                go_wp2
                clear c0 c1 c2 c3 hq
                go_loopw [10] (fun t wi => ∃ (q : Int) (dd : Nat), t = .int .i64 q ∧ dd ≤ ts.length ∧ Hid (isAt l ts k = chain l ts dd q.toNat) ∧ ((dd = 0 ∧ q = -1) ∨ (1 ≤ dd ∧ 0 ≤ q ∧ q < l.length ∧ Hid (dAt l q.toNat = dd))) ∧ Ext w wi) (fun t _ => (intOf t + 1).toNat)
                case atStart => exact ⟨k, ts.length, rfl, Nat.le_refl _, by show _ = _; rw [HV.out]; rfl, .inr ⟨n1, by omega, by omega, by show _ = _; rw [← HDP.out]; rfl⟩, hx.alloc _⟩
                case round =>
                  obtain ⟨q, dd, rfl, hdd, hch, hcs, hxi⟩ := hrel
                  rcases hcs with ⟨rfl, rfl⟩ | ⟨hd1, hq0, hq1, hdq⟩
                  · have HK := Lib.hid (show faI l ts = k by rw [hf.out, HS.out, hch.out]; rfl)
                    have hf0 : decide ((0 : Int) ≤ -1) = false := by decide
                    (go_wp2_with fail; refine wp_region_ext (by kernel_rfl) (by kernel_rfl) ?_; (repeat (first | go_big_quiet_step (fail) | quiet_step (fail))); refine wpQuiet_nil ?_; intro wq hbq; have hcq := Ext.cells hbq; have hzq := Ext.frozens hbq; have hsq := Ext.lts hbq)
                    go_wp2
                    go_ret2
                    exact ⟨by rw [show faV l ts = k by unfold faV; rw [HK.out, if_neg (by omega)], show decide (0 ≤ faI l ts) = true by rw [HK.out]; simp]; rfl, hxi.trans hbq⟩
                  · obtain ⟨j, rfl⟩ := Int.eq_ofNat_of_zero_le hq0
                    obtain ⟨m, rfl⟩ : ∃ m, dd = m + 1 := ⟨dd - 1, by omega⟩
                    have hjl : j < l.length := by omega
                    have hm : m < ts.length := by omega
                    obtain ⟨b1, o1, hA, hb1, hcell1⟩ := HR.out j l[j] (List.getElem?_eq_getElem hjl)
                    simp only [Option.some.injEq, Addr.mk.injEq, and_true] at hA
                    obtain ⟨rfl, rfl⟩ := hA
                    obtain ⟨b2, o2, rfl, hb2, hcell2⟩ := HT.out m ts[m] (List.getElem?_eq_getElem hm)
                    have htj := tAt_is l j hjl
                    have hdj := dAt_is l j hjl
                    have hts : ts.getD m 0 = ts[m] := by simp [hm]
                    have hdq' : l[j].depth = (m : Int) + 1 := by have := hdq.out; rw [Int.toNat_natCast, hdj] at this; omega
                    have c0 : wr.cell? ⟨b, o + j * 4, none⟩ = some (.int .i64 (l[j].depth)) := by rw [Ext.cell hxi hb]; exact hcell1 0 _ rfl
                    have c1 : wr.cell? ⟨b, o + j * 4 + 1, none⟩ = some (.int .i64 (l[j].type)) := by rw [Ext.cell hxi hb]; exact hcell1 1 _ rfl
                    have c2 : wr.cell? ⟨b2, o2 + m, none⟩ = some (.int .i64 (ts[m])) := by rw [Ext.cell hxi hb2]; simpa using hcell2 0 _ rfl
                    rw [hdq'] at c0
                    rw [← htj] at c1
                    rw [← hts] at c2
                    have z0 : b < wr.heap.size := Ext.lts hxi _ hb
                    have z1 : b2 < wr.heap.size := Ext.lts hxi _ hb2
                    have HC := Lib.hid (show isAt l ts k = chain l ts (m + 1) j by have := hch.out; rwa [Int.toNat_natCast] at this)
                    have HJD := Lib.hid (show dAt l j = (m : Int) + 1 by rw [hdj, hdq'])
                    clear hcell1 hcell2 htj hts hch hdq hdj hdq'
                    generalize hx1 : tAt l j = a1 at c1
                    generalize hx2 : ts.getD m 0 = a2 at c2
                    have sw : IntKind.i64.wrap ((m : Int) + 1 - 1) = (m : Int) := by rw [show (m : Int) + 1 - 1 = (m : Int) by omega]; exact IntWalk.i64_in _ (by omega)
                    by_cases heq : a1 = a2
                    · have hqq : (a1 == a2) = true := by simp [heq]
                      have HS2 := Lib.hid (chain_step (l := l) (ts := ts) m j (by rw [hx1, hx2, heq]; simp))
                      have HP := Lib.hid (par_depth HG.out j hjl)
                      clear heq hx1 hx2
                      (go_wp2_with fail; refine wp_region_ext (by kernel_rfl) (by kernel_rfl) ?_; (repeat (first | go_big_quiet_step (fail) | quiet_step (fail))); refine wpQuiet_nil ?_; intro wq hbq; have hcq := Ext.cells hbq; have hzq := Ext.frozens hbq; have hsq := Ext.lts hbq)
                      clear sw
                      go_wp2_with fail
                      refine (impl_parentOf_any _ l j _ (H.out.ext (hxi.trans hbq)) hl hjl HG.out).mono ?_
                      rintro e w2 ⟨rfl, F2⟩
                      go_wp2
                      go_roundw
                      case rel =>
                        refine ⟨parI l j, m, rfl, by omega, by show _ = _; rw [HC.out, HS2.out], ?_, (hxi.trans hbq).trans F2⟩
                        by_cases hm0 : m = 0
                        · subst hm0
                          exact .inl ⟨rfl, HP.out.1 (by rw [HJD.out]; rfl)⟩
                        · obtain ⟨u, hu, hul, hud⟩ := HP.out.2 (by rw [HJD.out]; omega)
                          exact .inr ⟨by omega, by rw [hu]; omega, by rw [hu]; omega, by show _ = _; rw [hu, Int.toNat_natCast, hud, HJD.out]; omega⟩
                      case measure =>
                        have hbd := prevP_bd (lessD l[j].depth) l j
                        rw [← parI_is l j hjl] at hbd
                        simp [intOf]; omega
                    · have hqq : (a1 == a2) = false := by simp [heq]
                      have HS2 := Lib.hid (chain_stop (l := l) (ts := ts) m j (by rw [hx1, hx2]; simp [heq]))
                      have HK := Lib.hid (show faI l ts = fnd (isAt l ts) (k + 1) (l.length - (k + 1)) by rw [hf.out, HS.out, HC.out, HS2.out]; rfl)
                      clear heq hx1 hx2
                      (go_wp2_with fail; refine wp_region_ext (by kernel_rfl) (by kernel_rfl) ?_; (repeat (first | go_big_quiet_step (fail) | quiet_step (fail))); refine wpQuiet_nil ?_; intro wq hbq; have hcq := Ext.cells hbq; have hzq := Ext.frozens hbq; have hsq := Ext.lts hbq)
                      clear sw
                      go_wp2
                      go_roundw
                      case rel => exact ⟨k + 1, by omega, by go_num, HK.out, hxi.trans hbq⟩
                      case measure => simp [intOf]; omega
              · have hq : (dAt l k != (ts.length : Int)) = true := by simp [hdep]
                have HV := Lib.hid (show isAt l ts k = false by simp [isAt, hdep])
                have HK := Lib.hid (show faI l ts = fnd (isAt l ts) (k + 1) (l.length - (k + 1)) by rw [hf.out, HS.out, HV.out]; rfl)
                clear hdep
                go_wp2
                go_roundw
                case rel => exact ⟨k + 1, by omega, by go_num, HK.out, hx.alloc _⟩
                case measure => simp [intOf]; omega
            · obtain rfl : k = l.length := by omega
              have HK := Lib.hid (show faI l ts = -1 by rw [hf.out, Nat.sub_self]; rfl)
              go_wp2
              go_ret2
              exact ⟨by unfold faV; rw [HK.out]; rfl, hx⟩
    · have HK := Lib.hid (show faI l ts = -1 by
        have : inR (ts.length : Int) 1 8 = false := inR_not.2 (by omega)
        simp [faI, faB, this])
      go_enter Try.func40, Try.ntmps40
      go_wp2_with fail
      refine (impl_AreAttrs_any _ l _ H.out hl).mono ?_
      rintro e w1 ⟨rfl, E1⟩
      rw [HG.out]
      by_cases hn1 : ts.length < 1
      all_goals (go_wp2; go_ret2; exact ⟨by unfold faV; rw [HK.out]; rfl, E1⟩)
  · replace hg : goodB l = false := by simpa using hg
    have HK := Lib.hid (show faI l ts = -1 by simp [faI, faB, hg])
    go_enter Try.func40, Try.ntmps40
    go_wp2_with fail
    refine (impl_AreAttrs_any _ l _ H.out hl).mono ?_
    rintro e w1 ⟨rfl, E1⟩
    rw [hg]
    go_wp2
    go_ret2
    exact ⟨by unfold faV; rw [HK.out]; rfl, E1⟩
end Go.Proofs.Ytifhjhgccknndaa
