/- Ways up: contracts of both sides, DeepClasses, CycleClasses. Printed by wip/tools/gen_way.py. -/
import Derived.Test.YtidahgoihgodnaaDoorBadT
import Derived.Test.YtidahgoihgodnaaDoorNum
namespace Go.Proofs.YtidahgoihgodnaaDoor
open Go.RowKit
set_option maxRecDepth 20000
set_option maxHeartbeats 1000000
set_option linter.unusedSimpArgs false
set_option linter.unusedVariables false

def parAt (cs : List Cls) (i : Nat) : Int := match cs[i]? with
  | some x => x.parent
  | none => 0
theorem parAt_is (cs : List Cls) (i : Nat) (h : i < cs.length) : parAt cs i = cs[i].parent := by simp [parAt, h]
/-- The index of a class's parent, or -1. -/
def upF (cs : List Cls) (k : Nat) : Int := findI cs (parAt cs k)
theorem upF_bd (cs : List Cls) : ∀ k, k < cs.length → upF cs k = -1 ∨ (0 ≤ upF cs k ∧ upF cs k < cs.length) := fun k _ => by
  rcases findI_bd cs (parAt cs k) with h | ⟨u, h1, h2⟩
  · exact .inl h
  · exact .inr (by unfold upF; omega)
/-- The first m indices on the way up. -/
def wayL (f : Nat → Int) (i m : Nat) : List Int := (List.range m).map (itU f i)
theorem wayL_succ (f : Nat → Int) (i m : Nat) : wayL f i (m + 1) = wayL f i m ++ [itU f i m] := by simp [wayL, List.range_succ]
theorem wayL_len (f : Nat → Int) (i m : Nat) : (wayL f i m).length = m := by simp [wayL]
theorem wayL_get (f : Nat → Int) (i m j : Nat) (h : j < m) : (wayL f i m)[j]? = some (itU f i j) := by simp [wayL, h]
def eqAt (l : List Int) (x : Int) (k : Nat) : Bool := match l[k]? with
  | some y => x == y
  | none => false
theorem eqAt_is (l : List Int) (x : Int) (k : Nat) (h : k < l.length) : eqAt l x k = (x == l[k]) := by simp [eqAt, h]
def idxL (l : List Int) (x : Int) : Int := fndN (eqAt l x) 0 l.length
def hasI (l : List Int) (x : Int) : Bool := decide (0 ≤ idxL l x)
theorem hasI_iff (l : List Int) (x : Int) : hasI l x = true ↔ x ∈ l := by
  have hb := fndN_bd (eqAt l x) l.length 0
  have hs := fndN_spec (eqAt l x) l.length 0
  unfold hasI idxL
  rw [decide_eq_true_eq]
  constructor
  · intro h
    obtain ⟨u, hu⟩ := Int.eq_ofNat_of_zero_le h
    have hul : u < l.length := by omega
    have := (hs.2 u hu).1
    rw [eqAt_is l x u hul] at this
    have e : x = l[u] := by simpa using this
    rw [e]
    exact List.getElem_mem hul
  · intro h
    obtain ⟨u, hu, rfl⟩ := List.mem_iff_getElem.1 h
    rcases hb with h1 | h1
    · have := hs.1 h1 u (by omega) (by omega)
      rw [eqAt_is l _ u hu] at this
      simp at this
    · omega
theorem stop_has {f : Nat → Int} {i m : Nat} {u : Nat} (h : itU f i m = u) : stopU f i m = hasI (wayL f i m) (u : Int) := by
  rw [Bool.eq_iff_iff, hasI_iff]
  simp only [stopU, h, Bool.or_eq_true, decide_eq_true_eq, List.any_eq_true, List.mem_range, beq_iff_eq, wayL, List.mem_map]
  constructor
  · rintro (h1 | h1)
    · omega
    · exact h1
  · exact .inr
def lenV : Value → Nat
  | .slice _ l _ => l
  | _ => 0
theorem own_lenV {α : Type} {w : World} {base : Nat} {e : TypeId} {k : Nat} {cells : α → List Value} {v : Value} {l : List α} (h : Own w base e k cells v l) (hk : ∀ x, (cells x).length = k) : lenV v = l.length := by
  obtain ⟨A, c, rfl, _⟩ := Own.rd h hk
  rfl
section
variable {f : Nat → Int} {n : Nat}
theorem way_stop_end (hf : ∀ k, k < n → f k = -1 ∨ (0 ≤ f k ∧ f k < n)) {i m : Nat} (hi : i < n) (h1 : itU f i m = -1) (h2 : ∀ j, j < m → stopU f i j = false) : endsU f i n = true ∧ wayN f i n = m := by
  have hw := wayN_is hf hi m (by simp [stopU, h1]) h2
  exact ⟨by simp [endsU, hw, h1], hw⟩
theorem way_stop_met (hf : ∀ k, k < n → f k = -1 ∨ (0 ≤ f k ∧ f k < n)) {i m : Nat} (hi : i < n) (h0 : 0 ≤ itU f i m) (h1 : stopU f i m = true) (h2 : ∀ j, j < m → stopU f i j = false) : endsU f i n = false ∧ wayN f i n = m := by
  have hw := wayN_is hf hi m h1 h2
  exact ⟨by simp [endsU, hw]; omega, hw⟩
theorem way_end (hf : ∀ k, k < n → f k = -1 ∨ (0 ≤ f k ∧ f k < n)) {i m : Nat} (hi : i < n) (h1 : ∀ j, j ≤ m → 0 ≤ itU f i j) (h2 : itU f i (m + 1) < 0) : endsU f i n = true ∧ wayN f i n = m + 1 := by
  obtain ⟨a, b⟩ := endsU_iff hf hi (m + 1) h2
  refine ⟨a, ?_⟩
  rcases Nat.lt_or_ge (wayN f i n) (m + 1) with h | h
  · have := h1 (wayN f i n) (by omega)
    simp only [endsU, decide_eq_true_eq] at a
    omega
  · omega
theorem way_no (hf : ∀ k, k < n → f k = -1 ∨ (0 ≤ f k ∧ f k < n)) {i : Nat} (hi : i < n) (h1 : ∀ j, j ≤ n → 0 ≤ itU f i j) : endsU f i n = false := by
  have := h1 _ (wayN_spec hf hi).1
  simp [endsU]
  omega
/-- The number of indices on the way up, or -1; the last one that is looked at. -/
def wayA (f : Nat → Int) (i n : Nat) : Int := if endsU f i n then (wayN f i n : Int) else -1
def lastA (f : Nat → Int) (i n : Nat) : Int := if endsU f i n then itU f i (wayN f i n - 1) else itU f i n
theorem cyc_end (hf : ∀ k, k < n → f k = -1 ∨ (0 ≤ f k ∧ f k < n)) {i m : Nat} (hi : i < n) (h : itU f i m < 0) : cycU f i n = false := by
  simp [cycU, (endsU_iff hf hi m h).1]
theorem cyc_no (hf : ∀ k, k < n → f k = -1 ∨ (0 ≤ f k ∧ f k < n)) {i : Nat} (hi : i < n) (h : ∀ j, 0 < j → j ≤ n → itU f i j ≠ i) : cycU f i n = false := by
  obtain ⟨a, b, _, _⟩ := wayN_spec hf hi
  have := h _ b a
  simp [cycU, this]
end
def deepP (cs : List Cls) (k : Nat) : Bool := !endsU (upF cs) k cs.length || decide (8 < wayN (upF cs) k cs.length)
theorem deepP_in (cs : List Cls) (k : Nat) (h : k < cs.length) : (!inR (wayA (upF cs) k cs.length) 1 8) = deepP cs k := by
  obtain ⟨a, b, _, _⟩ := wayN_spec (upF_bd cs) h
  unfold deepP wayA
  cases endsU (upF cs) k cs.length
  · rfl
  · rw [Bool.eq_iff_iff]
    simp [inR]
    omega
def cycP (cs : List Cls) (k : Nat) : Bool := cycU (upF cs) k cs.length
def deepV (n : ByteArray) (cs : List Cls) (fs : List Flt) (d : Int) : List Int := if smallCf cs fs then pick (deepP cs) cs.length else []
theorem deepV_len (n : ByteArray) (cs : List Cls) (fs : List Flt) (d : Int) : (deepV n cs fs d).length ≤ 2000000 := by
  unfold deepV
  split
  · rename_i h
    simp only [smallCf, Bool.and_eq_true, decide_eq_true_eq] at h
    have := pick_len (deepP cs) cs.length
    omega
  · simp
def cycV (n : ByteArray) (cs : List Cls) (fs : List Flt) (d : Int) : List Int := if smallCf cs fs then pick (cycP cs) cs.length else []
theorem cycV_len (n : ByteArray) (cs : List Cls) (fs : List Flt) (d : Int) : (cycV n cs fs d).length ≤ 2000000 := by
  unfold cycV
  split
  · rename_i h
    simp only [smallCf, Bool.and_eq_true, decide_eq_true_eq] at h
    have := pick_len (cycP cs) cs.length
    omega
  · simp

theorem itU_up {cs : List Cls} {i m u : Nat} (hu : itU (upF cs) i m = u) : itU (upF cs) i (m + 1) = findI cs (parAt cs u) := by
  rw [itU_step (by omega), hu]
  rfl
theorem slices_IndexI_any (v : Value) (l : List Int) (x : Int) (w : World) (h : RdI w v l) (hl : l.length ≤ 2000000) :
    Calls Tryd.prog 91 #[v, .int .i64 x] w fun e w' => e = .returned (.int .i64 (idxL l x)) ∧ Ext w w' := by
  obtain ⟨A, c, rfl, hc, hrd⟩ := h
  have HR := Lib.hid hrd
  clear hrd
  go_enter Tryd.func91, Tryd.ntmps91
  go_wp2
  go_loopw [8] (fun t wr => ∃ k : Nat, k ≤ l.length ∧ t = .int .i64 (k : Int) ∧ Hid (idxL l x = fndN (eqAt l x) k (l.length - k)) ∧ Ext w wr) (fun t _ => l.length - (intOf t).toNat)
  case atStart => exact ⟨0, Nat.zero_le _, rfl, rfl, Ext.refl _⟩
  case round =>
    obtain ⟨k, hk, rfl, hq, hx⟩ := hrel
    by_cases hlt : k < l.length
    · obtain ⟨b, o, rfl, hb, hcell⟩ := HR.out k l[k] (List.getElem?_eq_getElem hlt)
      have hst := fndN_step (eqAt l x) k l.length hlt
      rw [eqAt_is l x k hlt] at hst
      generalize l[k] = y at hcell hst
      have HST := Lib.hid hst
      have c0 : wr.cell? ⟨b, o + k, none⟩ = some (.int .i64 y) := by rw [Ext.cell hx hb]; simpa using hcell 0 _ rfl
      clear hcell hst
      cases he : (x == y)
      · have HE := Lib.hid he
        go_wp2
        go_roundw
        case rel => exact ⟨k + 1, by omega, by go_num, by have := hq.out; rw [HST.out, HE.out] at this; exact this, hx⟩
        case measure => simp [intOf]; omega
      · have HE := Lib.hid he
        go_wp2
        go_ret
        exact ⟨by have := hq.out; rw [HST.out, HE.out] at this; rw [this]; rfl, hx⟩
    · obtain rfl : k = l.length := by omega
      go_wp2
      go_ret
      exact ⟨by have := hq.out; rw [Nat.sub_self] at this; rw [this]; rfl, hx⟩
theorem slices_ContainsI_any (v : Value) (l : List Int) (x : Int) (w : World) (h : RdI w v l) (hl : l.length ≤ 2000000) :
    Calls Tryd.prog 90 #[v, .int .i64 x] w fun e w' => e = .returned (.bool (hasI l x)) ∧ Ext w w' := by
  have H := Lib.hid h
  clear h
  go_enter Tryd.func90, Tryd.ntmps90
  go_wp2_with fail
  refine (slices_IndexI_any _ l x _ H.out hl).mono ?_
  rintro e w1 ⟨rfl, F1⟩
  go_wp2
  go_ret
  exact ⟨rfl, F1⟩
theorem impl_rawWay_any (n : ByteArray) (cv fv : Value) (d : Int) (i : Nat) (cs : List Cls) (w : World) (hc : RdC w cv cs) (hi : i < cs.length) (hcl : cs.length ≤ 1048576) :
    Calls Tryd.prog 86 #[cfgV n cv fv d, .int .i64 (i : Int)] w fun e w' => ∃ u, e = .returned (.tuple #[u, .bool (endsU (upF cs) i cs.length)]) ∧ OwnI w' w.heap.size 3 u (wayL (upF cs) i (wayN (upF cs) i cs.length)) ∧ Ext w w' := by
  have HC := Lib.hid hc
  obtain ⟨CA, cc, rfl, hcc, hrc⟩ := hc
  have HR := Lib.hid hrc
  clear hrc
  have D0 := (Ext.refl (w.alloc (.cells #[.string n, .slice CA cs.length cc, fv, .int .i64 d] 30))).alloc (.cells #[] 3)
  have HST := Lib.hid (show OwnI ((w.alloc (.cells #[.string n, .slice CA cs.length cc, fv, .int .i64 d] 30)).alloc (.cells #[] 3)) (w.heap.size + 1) 3 (.slice (some ⟨w.heap.size + 1, 0, none⟩) 0 0) [] by
    have := World.ownsRow_lit (base := w.heap.size + 1) (e := 3) (size := 1) (w.alloc (.cells #[.string n, .slice CA cs.length cc, fv, .int .i64 d] 30)) #[] 0 (by simp) (by unfold maxLen; omega) rfl
    unfold OwnI Own
    simpa using this)
  go_enter Tryd.func86, Tryd.ntmps86
  go_wp2
  go_loopw [1, 6] (fun t s wr => ∃ m : Nat, m ≤ cs.length ∧ t = .int .i64 (itU (upF cs) i m) ∧ Hid (OwnI wr (w.heap.size + 1) 3 s (wayL (upF cs) i m) ∧ ∀ j, j < m → stopU (upF cs) i j = false) ∧ Ext (w.alloc (.cells #[.string n, .slice CA cs.length cc, fv, .int .i64 d] 30)) wr) (fun _ s _ => cs.length + 1 - lenV s)
  case atStart => exact ⟨0, Nat.zero_le _, rfl, ⟨HST.out, fun j hj => absurd hj (Nat.not_lt_zero _)⟩, D0⟩
  case round =>
    obtain ⟨m, hm, rfl, hq, hx⟩ := hrel
    have hxw := Ext.trans ((Ext.refl w).alloc (.cells #[.string n, .slice CA cs.length cc, fv, .int .i64 d] 30)) hx
    have HLS := Lib.hid (own_lenV hq.out.1 icell_len)
    rcases itU_bd (upF_bd cs) hi m with hz | ⟨hz1, hz2⟩
    · have HE := Lib.hid (way_stop_end (upF_bd cs) hi hz hq.out.2)
      rw [hz]
      clear hz
      go_wp2
      go_ret2
      exact ⟨_, by rw [HE.out.1]; rfl, by rw [HE.out.2]; exact Own.mono hq.out.1 (by omega), hxw⟩
    · obtain ⟨u, hu⟩ := Int.eq_ofNat_of_zero_le hz1
      have hul : u < cs.length := by omega
      have HU := Lib.hid hu
      rw [hu]
      clear hz1 hz2 hu
      obtain ⟨b, o, hCA, hb, hcell⟩ := HR.out u cs[u] (List.getElem?_eq_getElem hul)
      have HPA := Lib.hid (parAt_is cs u hul)
      generalize cs[u] = x at hcell HPA
      subst hCA
      have HCE := Lib.hid (hcell 1 _ rfl)
      clear hcell
      go_wp2_with fail
      refine (slices_ContainsI_any _ (wayL (upF cs) i m) u _ (Own.rd hq.out.1 icell_len) (by rw [wayL_len]; omega)).mono ?_
      rintro e w1 ⟨rfl, F1⟩
      have D1 := hx.trans F1
      cases hh : hasI (wayL (upF cs) i m) (u : Int)
      · have HSF := Lib.hid (show ∀ j, j < m + 1 → stopU (upF cs) i j = false from fun j hj => by
          rcases Nat.lt_or_eq_of_le (Nat.le_of_lt_succ hj) with h | h
          · exact hq.out.2 j h
          · rw [h, stop_has HU.out]; exact hh)
        have HM := Lib.hid (way_few (upF_bd cs) hi (m + 1) HSF.out)
        clear hh
        go_wp2_with (at_builtin; refine app_intB (by simp) (Own.ext hq.out.1 F1) (by rw [wayL_len]; omega) D1 rfl rfl rfl rfl ?_; intro v2 w2 hown2 D2; have HO2 := Lib.hid hown2; clear hown2; obtain ⟨q0, q1, q2, q3, q4⟩ := (Box.new w n (.slice (some ⟨b, o, none⟩) cs.length cc) fv d 30).ext D2; have c1 : w2.cell? ⟨b, o + u * 8 + 1, none⟩ = some (.int .i64 x.parent) := (Ext.cell (Ext.trans ((Ext.refl w).alloc _) D2) hb).trans HCE.out; have z0 : b < w2.heap.size := Ext.lts (Ext.trans ((Ext.refl w).alloc _) D2) _ hb)
        (go_wp2_with fail; refine wp_region_ext (by kernel_rfl) (by kernel_rfl) ?_; (repeat (first | go_big_quiet_step ((first | (go_at_call 27; exact calls_later (impl_indexOf_any _ _ _ _ _ _ _ (HC.out.ext ((Ext.trans ((Ext.refl w).alloc _) D2).trans (Later.ext _))) (by omega))))) | quiet_step ((first | (go_at_call 27; exact calls_later (impl_indexOf_any _ _ _ _ _ _ _ (HC.out.ext ((Ext.trans ((Ext.refl w).alloc _) D2).trans (Later.ext _))) (by omega))))))); refine wpQuiet_nil ?_; intro wq hbq; have hcq := Ext.cells hbq; have hzq := Ext.frozens hbq; have hsq := Ext.lts hbq)
        have F3 := hbq
        clear q0 q1 q2 q3 q4 c1
        have HL2 := Lib.hid (own_lenV HO2.out icell_len)
        go_wp2
        go_roundw
        case rel => exact ⟨m + 1, HM.out, by rw [itU_up HU.out, HPA.out], ⟨by rw [wayL_succ, HU.out]; exact Own.ext HO2.out F3, HSF.out⟩, D2.trans F3⟩
        case measure =>
          have h1 := HL2.out
          have h2 := HLS.out
          have h3 := HM.out
          rw [List.length_append, wayL_len, List.length_singleton] at h1
          rw [wayL_len] at h2
          rw [h1, h2]
          omega
      · have HE := Lib.hid (way_stop_met (upF_bd cs) hi (by rw [HU.out]; omega) (by rw [stop_has HU.out]; exact hh) hq.out.2)
        clear hh
        go_wp2
        go_ret2
        exact ⟨_, by rw [HE.out.1]; rfl, by rw [HE.out.2]; exact Own.ext (Own.mono hq.out.1 (by omega)) F1, hxw.trans F1⟩
theorem spec_vaWay_any (n : ByteArray) (cv fv : Value) (d : Int) (i : Nat) (cs : List Cls) (w : World) (hc : RdC w cv cs) (hi : i < cs.length) (hcl : cs.length ≤ 1048576) :
    Calls Tryd.prog 41 #[cfgV n cv fv d, .int .i64 (i : Int)] w fun e w' => e = .returned (.tuple #[.int .i64 (wayA (upF cs) i cs.length), .int .i64 (lastA (upF cs) i cs.length)]) ∧ Ext w w' := by
  have HC := Lib.hid hc
  obtain ⟨CA, cc, rfl, hcc, hrc⟩ := hc
  have HR := Lib.hid hrc
  clear hrc
  go_enter Tryd.func41, Tryd.ntmps41
  go_wp2
  go_loopw [6, 1] (fun t s wr => ∃ m : Nat, m ≤ cs.length ∧ t = .int .i64 ((m : Int) + 1) ∧ s = .int .i64 (itU (upF cs) i m) ∧ Hid (∀ j, j ≤ m → 0 ≤ itU (upF cs) i j) ∧ Ext (w.alloc (.cells #[.string n, .slice CA cs.length cc, fv, .int .i64 d] 30)) wr) (fun t _ _ => cs.length + 1 - (intOf t).toNat)
  case atStart => exact ⟨0, Nat.zero_le _, rfl, rfl, fun j hj => (by have h0 : j = 0 := (by omega); subst h0; simp [itU]), Ext.refl _⟩
  case round =>
    obtain ⟨m, hm, rfl, rfl, hq, hx⟩ := hrel
    have hxw := Ext.trans ((Ext.refl w).alloc (.cells #[.string n, .slice CA cs.length cc, fv, .int .i64 d] 30)) hx
    have BX := Lib.hid ((Box.new w n (.slice CA cs.length cc) fv d 30).ext hx)
    obtain ⟨u, hu⟩ := Int.eq_ofNat_of_zero_le (hq.out m (Nat.le_refl _))
    have hul : u < cs.length := by have := itU_bd (upF_bd cs) hi m; omega
    have HU := Lib.hid hu
    rw [hu]
    clear hu
    obtain ⟨q0, q1, q2, q3, q4⟩ := BX.out
    by_cases hlt : m < cs.length
    · obtain ⟨b, o, hCA, hb, hcell⟩ := HR.out u cs[u] (List.getElem?_eq_getElem hul)
      have HPA := Lib.hid (parAt_is cs u hul)
      generalize cs[u] = x at hcell HPA
      subst hCA
      have c1 : wr.cell? ⟨b, o + u * 8 + 1, none⟩ = some (.int .i64 x.parent) := by rw [Ext.cell hxw hb]; exact hcell 1 _ rfl
      clear hcell
      have z0 : b < wr.heap.size := Ext.lts hxw _ hb
      go_wp2_with fail
      (go_wp2_with fail; refine wp_region_ext (by kernel_rfl) (by kernel_rfl) ?_; (repeat (first | go_big_quiet_step ((first | (go_at_call 22; exact calls_later (spec_cfFind_any _ _ _ _ _ _ _ (HC.out.ext (hxw.trans (Later.ext _))) (by omega))))) | quiet_step ((first | (go_at_call 22; exact calls_later (spec_cfFind_any _ _ _ _ _ _ _ (HC.out.ext (hxw.trans (Later.ext _))) (by omega))))))); refine wpQuiet_nil ?_; intro wq hbq; have hcq := Ext.cells hbq; have hzq := Ext.frozens hbq; have hsq := Ext.lts hbq)
      have F1 := hbq
      clear q0 q1 q2 q3 q4 c1
      have HF := Lib.hid (show itU (upF cs) i (m + 1) = findI cs x.parent by rw [itU_up HU.out, HPA.out])
      rcases findI_bd cs x.parent with h | ⟨v, hv, hvl⟩
      · have HE := Lib.hid (way_end (upF_bd cs) hi hq.out (by rw [HF.out, h]; omega))
        rw [h]
        clear h
        go_wp2
        go_ret2
        exact ⟨by simp only [wayA, lastA]; rw [HE.out.1, HE.out.2]; simp [HU.out], hxw.trans F1⟩
      · have HV := Lib.hid hv
        rw [hv]
        clear hv
        go_wp2
        go_roundw
        case rel => exact ⟨m + 1, by omega, by go_num, by rw [HF.out, HV.out], fun j hj => by
                      rcases Nat.lt_or_eq_of_le hj with h | h
                      · exact hq.out j (by omega)
                      · rw [h, HF.out, HV.out]; omega, hx.trans F1⟩
        case measure => simp [intOf]; omega
    · obtain rfl : m = cs.length := by omega
      have HE := Lib.hid (way_no (upF_bd cs) hi hq.out)
      go_wp2
      go_ret2
      exact ⟨by simp only [wayA, lastA]; rw [HE.out]; simp [HU.out], hxw⟩
end Go.Proofs.YtidahgoihgodnaaDoor
