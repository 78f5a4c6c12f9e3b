/- The header of a packet; how many values a filter takes. -/
import Derived.Test.YtmciiomhcojaaaaPF3
namespace Go.Proofs.Ytmciiomhcojaaaa
open Go.RowKit
set_option maxHeartbeats 1000000
set_option linter.unusedSimpArgs false
set_option linter.unusedVariables false

theorem impl_highBytes_any (a : Int) (w : World) (h : 0 ≤ a) (h2 : a < 4294967296) :
    Calls Try.prog 53 #[.int .i64 a] w fun e w' => e = .returned (.string (strOfNums [a / 256 % 256, a % 256])) ∧ Ext w w' := by
  have hcv := conv2 w
  go_enter Try.func53, Try.ntmps53
  go_wp2
  go_ret
  exact ⟨rfl, (Ext.refl _).alloc _⟩

theorem strOfNums_add' (xs ys : List Int) : strOfNums xs ++ strOfNums ys = strOfNums (xs ++ ys) := by
  apply ByteArray.ext
  simp [strOfNums]
/-- The numbers of the pairs of bytes, but for the last. -/
def pairs7 (a b c d e f : Int) : List Int := [a / 65536, a % 65536, b, c, d, e, f]
def sum7 (a b c d e f : Int) : Int := a / 65536 + a % 65536 + b + c + d + e + f
def two (n : Int) : List Int := [n / 256, n % 256]
def hdS (a b c d e f : Int) : ByteArray := strOfNums ((pairs7 a b c d e f ++ [sum7 a b c d e f % 65536]).flatMap two)

/-- A byte of a text. -/
def bt (s : ByteArray) (i : Nat) : Int := match s.data.toList[i]? with
  | some b => b.toNat
  | none => 0
theorem bt_get (s : ByteArray) (i : Nat) (h : i < s.size) : bt s i = (s[i].toNat : Int) := by
  have : s.data.toList[i]? = some s[i] := List.getElem?_eq_getElem (by simpa using h)
  simp [bt, this]
theorem bt_bd (s : ByteArray) (i : Nat) : 0 ≤ bt s i ∧ bt s i ≤ 255 := by
  unfold bt
  split
  · rename_i b _
    have := b.toNat_lt
    omega
  · omega
def psum (s : ByteArray) : Nat → Int
  | 0 => 0
  | k + 1 => psum s k + (256 * bt s (2 * k) + bt s (2 * k + 1))
theorem psum_bd (s : ByteArray) : ∀ k : Nat, 0 ≤ psum s k ∧ psum s k ≤ 65535 * k
  | 0 => by simp [psum]
  | k + 1 => by
    have h1 := psum_bd s k
    have h2 := bt_bd s (2 * k)
    have h3 := bt_bd s (2 * k + 1)
    simp only [psum]
    omega
theorem impl_pairSum_any (s : ByteArray) (m : Nat) (w : World) (hm : m ≤ 1000) (hs : s.size ≤ 2 * m) (hs' : 2 * m ≤ s.size) :
    Calls Try.prog 54 #[.string s] w fun e w' => e = .returned (.int .i64 (psum s m % 65536)) ∧ Ext w w' := by
  go_enter Try.func54, Try.ntmps54
  go_wp2
  go_loopw [4, 3] (fun t q wr => ∃ j k : Nat, Hid (j = 2 * k) ∧ k ≤ m ∧ j ≤ 2 * m ∧ t = .int .i64 (j : Int) ∧ q = .int .i64 (psum s k) ∧ Ext w wr) (fun t _ _ => 2 * m - (intOf t).toNat)
  case atStart => exact ⟨0, 0, rfl, Nat.zero_le _, Nat.zero_le _, rfl, rfl, Ext.refl _⟩
  case round =>
    obtain ⟨j, k, hj, hk, hjm, rfl, rfl, hx⟩ := hrel
    have hb := psum_bd s k
    by_cases hlt : j < 2 * m
    · have i1 : j < s.size := by omega
      have i2 : j + 1 < s.size := by have := hj.out; omega
      have HE1 := Lib.hid (bt_get s j i1)
      have HE2 := Lib.hid (bt_get s (j + 1) i2)
      have ho := orHL2 s[j] s[j + 1]
      have g1 := (s[j]).toNat_lt
      have g2 := (s[j + 1]).toNat_lt
      have hkm : k < m := by have := hj.out; omega
      have s1 : IntKind.i64.wrap ((j : Int) + 1) = (j : Int) + 1 := IntWalk.i64_in _ (by omega)
      have s2 : (0 : Int) ≤ (j : Int) + 1 := by omega
      have s3 : ((j : Int) + 1).toNat = j + 1 := by omega
      have s4 : ((j : Int) + 1) < (s.size : Int) := by omega
      have s5 : wrap64 (psum s k + (256 * (s[j].toNat : Int) + (s[j + 1].toNat : Int))) = psum s k + (256 * (s[j].toNat : Int) + (s[j + 1].toNat : Int)) := IntWalk.wrap64_in _ ⟨by omega, by omega⟩
      (go_wp2_with fail; refine wp_region_ext (by kernel_rfl) (by kernel_rfl) ?_; (repeat (first | go_big_quiet_step (fail) | quiet_step (fail))); refine wpQuiet_nil ?_; intro wq hbq; (try (replace hbq := Ext.trans (by assumption) hbq)); have hcq := Ext.cells hbq; have hzq := Ext.frozens hbq; have hsq := Ext.lts hbq)
      go_wp2
      go_roundw
      case rel => exact ⟨j + 2, k + 1, by have := hj.out; show _ = _; omega, by omega, by have := hj.out; omega, by go_num, by rw [psum, ← hj.out, HE1.out, HE2.out], by assumption⟩
      case measure => simp [intOf]; omega
    · obtain rfl : k = m := by have := hj.out; omega
      have ha := and_ffff (psum s k) (by omega) (by omega)
      go_wp2
      go_ret
      exact ⟨rfl, hx⟩
theorem bt_nums (xs : List Int) (i : Nat) (x : Int) (h : xs[i]? = some x) (h0 : 0 ≤ x) (h1 : x ≤ 255) : bt (strOfNums xs) i = x := by
  have : (strOfNums xs).data.toList[i]? = some (UInt8.ofNat x.toNat) := by
    rw [strOfNums_data, List.getElem?_map, h]
    rfl
  simp only [bt, this]
  rw [UInt8.toNat_ofNat']
  omega
theorem impl_headerOf_any (a b c d e f : Int) (w : World) (h : pktB a b c d e f = true) :
    Calls Try.prog 49 #[pktV a b c d e f] w fun en w' => en = .returned (.string (hdS a b c d e f)) ∧ Ext w w' := by
  obtain ⟨ha, hb, hc, hd, he, hf⟩ := pktB_parts h
  rw [inR_iff] at ha hb hc hd he hf
  obtain ⟨a0, a1⟩ := ha
  obtain ⟨b0, b1⟩ := hb
  obtain ⟨c0, c1⟩ := hc
  obtain ⟨d0, d1⟩ := hd
  obtain ⟨e0, e1⟩ := he
  obtain ⟨f0, f1⟩ := hf
  have hss := strOfNums_add'
  have hsz := strOfNums_size
  obtain ⟨L, hL⟩ : ∃ L : List Int, L = [a / 65536 / 256 % 256, a / 65536 % 256, a / 256 % 256, a % 256, b / 256 % 256, b % 256, c / 256 % 256, c % 256, d / 256 % 256, d % 256, e / 256 % 256, e % 256, f / 256 % 256, f % 256] := ⟨_, rfl⟩
  have HP := Lib.hid (show psum (strOfNums L) 7 = sum7 a b c d e f by
    subst hL
    simp only [psum]
    rw [bt_nums _ (2 * 0) _ rfl (by omega) (by omega), bt_nums _ (2 * 0 + 1) _ rfl (by omega) (by omega), bt_nums _ (2 * 1) _ rfl (by omega) (by omega), bt_nums _ (2 * 1 + 1) _ rfl (by omega) (by omega),
      bt_nums _ (2 * 2) _ rfl (by omega) (by omega), bt_nums _ (2 * 2 + 1) _ rfl (by omega) (by omega), bt_nums _ (2 * 3) _ rfl (by omega) (by omega), bt_nums _ (2 * 3 + 1) _ rfl (by omega) (by omega),
      bt_nums _ (2 * 4) _ rfl (by omega) (by omega), bt_nums _ (2 * 4 + 1) _ rfl (by omega) (by omega), bt_nums _ (2 * 5) _ rfl (by omega) (by omega), bt_nums _ (2 * 5 + 1) _ rfl (by omega) (by omega),
      bt_nums _ (2 * 6) _ rfl (by omega) (by omega), bt_nums _ (2 * 6 + 1) _ rfl (by omega) (by omega)]
    unfold sum7
    omega)
  have HQ := Lib.hid (show strOfNums (L ++ [sum7 a b c d e f % 65536 / 256 % 256, sum7 a b c d e f % 65536 % 256]) = hdS a b c d e f by
    subst hL
    unfold hdS pairs7 two
    congr 1
    simp only [List.flatMap_cons, List.flatMap_nil, List.cons_append, List.nil_append, List.append_nil]
    have q1 : a / 65536 / 256 % 256 = a / 65536 / 256 := by omega
    have q2 : a / 65536 % 256 = a / 65536 % 256 := rfl
    have q3 : a / 256 % 256 = a % 65536 / 256 := by omega
    have q4 : a % 256 = a % 65536 % 256 := by omega
    have q5 : b / 256 % 256 = b / 256 := by omega
    have q6 : c / 256 % 256 = c / 256 := by omega
    have q7 : d / 256 % 256 = d / 256 := by omega
    have q8 : e / 256 % 256 = e / 256 := by omega
    have q9 : f / 256 % 256 = f / 256 := by omega
    have q10 : sum7 a b c d e f % 65536 / 256 % 256 = sum7 a b c d e f % 65536 / 256 := by omega
    rw [q1, q3, q4, q5, q6, q7, q8, q9, q10])
  have HZ := Lib.hid (show (strOfNums L).size = 14 by rw [strOfNums_size, hL]; rfl)
  have HL := Lib.hid hL
  clear hL
  go_enter Try.func49, Try.ntmps49
  (go_wp2_with fail; refine wp_region_ext (by kernel_rfl) (by kernel_rfl) ?_; (repeat (first | go_big_quiet_step ((first | (go_at_call 53; exact calls_later (impl_highBytes_any _ _ (by omega) (by omega))))) | quiet_step ((first | (go_at_call 53; exact calls_later (impl_highBytes_any _ _ (by omega) (by omega))))))); refine wpQuiet_nil ?_; intro wq hbq; (try (replace hbq := Ext.trans (by assumption) hbq)); have hcq := Ext.cells hbq; have hzq := Ext.frozens hbq; have hsq := Ext.lts hbq)
  rw [← HL.out]
  clear hss hsz
  go_wp2_with fail
  refine (impl_pairSum_any _ 7 _ (by omega) (by have := HZ.out; omega) (by have := HZ.out; omega)).mono ?_
  rintro en w2 ⟨rfl, hb2⟩
  rw [HP.out]
  have hp0 : 0 ≤ sum7 a b c d e f % 65536 := by omega
  have hp1 : sum7 a b c d e f % 65536 < 65536 := by omega
  generalize hp : sum7 a b c d e f % 65536 = p at hp0 hp1 ⊢
  have HPP := Lib.hid hp
  clear hp
  go_wp2_with fail
  refine (impl_highBytes_any _ _ (by omega) (by omega)).mono ?_
  rintro en w3 ⟨rfl, hb3⟩
  have hz : (strOfNums L).size ≤ 14 := by have := HZ.out; omega
  have hz2 : (strOfNums [p / 256 % 256, p % 256]).size ≤ 2 := by rw [strOfNums_size]; simp
  go_wp2
  go_ret
  refine ⟨?_, ?_⟩
  · show Ending.returned (Value.string (strOfNums _ ++ strOfNums _)) = _
    rw [strOfNums_add', ← HPP.out, HQ.out]
  · (repeat (first | (with_reducible exact Ext.refl _) | (with_reducible assumption) | (with_reducible apply Ext.alloc) | (with_reducible apply Ext.drew) | (with_reducible apply Ext.drewN) | ((with_reducible refine Ext.setCell ?_ ?_ _); rotate_left; (focus (first | (simp; done) | (simp; omega) | omega))) | (with_reducible refine Ext.trans ?_ (by assumption))))
theorem info_byte : (Try.prog.info? 5).map (fun i => (i.zero, i.size, i.bytes)) = some (some (.int .u8 0), 1, 1) := by kernel_rfl
theorem app_byte2 {ops : Array Oper} {rest : List Oper} {o : Oper} {a : Act} {Q : Exit → Act → World → Prop} {w wr : World} {v : Value} {l : List Int} {y z : Int} {s x : Operand} (hown : Own wr w.heap.size 5 1 bcell v l) (hn : l.length ≤ 10000000) (hE : Ext w wr)
    (hgd : o.guard = none) (ho : o.op = .call { callee := .builtin .append, args := #[s, x], argTypes := #[65, 65] })
    (hs : a.eval s = v) (hx : a.eval x = .slice (some ⟨wr.heap.size, 0, none⟩) 2 2)
    (h : ∀ v' w', Own w' w.heap.size 5 1 bcell v' (l ++ [y, z]) → Ext w w' → wpList Try.prog ops Q rest (a.put o.dst v') w') : wpList Try.prog ops Q (o :: rest) a (wr.alloc (.cells #[.int .u8 y, .int .u8 z] 5)) := by
  obtain ⟨i0, ii0, ii1, ii2, ii3⟩ := info_parts info_byte
  exact own_app Try.underlying65 ii0 ii1 ii2 ii3 rfl (by omega) (by omega) bcell_len (fun x u hu => by simp [bcell] at hu; subst hu; rfl) w wr hgd s x ho v l [y, z] [.int .u8 y, .int .u8 z] rfl 2 hs hx hown (by simp; omega) hE h

theorem spec_pkPairs_any (a b c d e f : Int) (w : World) (h : pktB a b c d e f = true) :
    Calls Try.prog 52 #[pktV a b c d e f] w fun en w' => ∃ v, en = .returned v ∧ OwnI w' w.heap.size 3 v (pairs7 a b c d e f ++ [sum7 a b c d e f % 65536]) ∧ Ext w w' := by
  obtain ⟨ha, hb, hc, hd, he, hf⟩ := pktB_parts h
  rw [inR_iff] at ha hb hc hd he hf
  obtain ⟨a0, a1⟩ := ha
  obtain ⟨b0, b1⟩ := hb
  obtain ⟨c0, c1⟩ := hc
  obtain ⟨d0, d1⟩ := hd
  obtain ⟨e0, e1⟩ := he
  obtain ⟨f0, f1⟩ := hf
  go_enter Try.func52, Try.ntmps52
  go_wp2
  refine wp_loop_rounds 8 ?_
  iterate 7 (rw [rounds_succ]; go_wp2)
  rw [rounds_succ]
  have ho : OwnI ((w.alloc (.cells #[.int .i64 a, .int .i64 b, .int .i64 c, .int .i64 d, .int .i64 e, .int .i64 f] 26)).alloc (.cells #[.int .i64 (a / 65536), .int .i64 (a % 65536), .int .i64 b, .int .i64 c, .int .i64 d, .int .i64 e, .int .i64 f] 3)) w.heap.size 3 (.slice (some ⟨w.heap.size + 1, 0, none⟩) 7 7) (pairs7 a b c d e f) := by
    have := World.ownsRow_lit (base := w.heap.size) (e := 3) (size := 1) (w.alloc (.cells #[.int .i64 a, .int .i64 b, .int .i64 c, .int .i64 d, .int .i64 e, .int .i64 f] 26)) #[.int .i64 (a / 65536), .int .i64 (a % 65536), .int .i64 b, .int .i64 c, .int .i64 d, .int .i64 e, .int .i64 f] 7 (by simp) (by unfold maxLen; omega) rfl
    simp at this
    exact this
  have HO := Lib.hid ho
  clear ho
  go_wp2_with (at_builtin; refine app_int HO.out (by simp [pairs7]) (((Ext.refl _).alloc _).alloc _) rfl rfl rfl ?hxx ?_; rotate_left; intro v1 w1 hown1 hx1)
  case hxx =>
    show Value.slice (some ⟨w.heap.size + 1 + 1, 0, none⟩) 1 1 = _
    simp
  go_ret
  refine ⟨_, rfl, ?_, hx1⟩
  have e1 : a / 65536 + a % 65536 + b + c + d + e + f = sum7 a b c d e f := rfl
  simpa [sum7] using hown1
theorem flat_two_len (l : List Int) : (l.flatMap two).length = 2 * l.length := by
  induction l with
  | nil => rfl
  | cons x l ih => rw [List.flatMap_cons, List.length_append, ih]; simp [two]; omega
theorem spec_pkHeader_any (a b c d e f : Int) (w : World) (h : pktB a b c d e f = true) :
    Calls Try.prog 48 #[pktV a b c d e f] w fun en w' => en = .returned (.string (hdS a b c d e f)) ∧ Ext w w' := by
  obtain ⟨L, hL⟩ : ∃ L : List Int, L = pairs7 a b c d e f ++ [sum7 a b c d e f % 65536] := ⟨_, rfl⟩
  have hlen : L.length ≤ 8 := by rw [hL]; simp [pairs7]
  have hbd : ∀ x ∈ L, 0 ≤ x ∧ x ≤ 65535 := by
    obtain ⟨ha, hb, hc, hd, he, hf⟩ := pktB_parts h
    rw [inR_iff] at ha hb hc hd he hf
    rw [hL]
    intro x hx
    simp only [pairs7, List.mem_append, List.mem_cons, List.not_mem_nil, or_false] at hx
    rcases hx with (rfl | rfl | rfl | rfl | rfl | rfl | rfl) | rfl <;> omega
  have HL := Lib.hid hL
  have HB := Lib.hid hbd
  have HH := Lib.hid h
  clear hL hbd h
  go_enter Try.func48, Try.ntmps48
  go_wp2_with fail
  refine (spec_pkPairs_any _ _ _ _ _ _ _ HH.out).mono ?_
  rintro en w1 ⟨v, rfl, hown, hb1⟩
  rw [← HL.out] at hown
  have hrd := Own.rd hown icell_len
  have hx1 : Ext w w1 := Ext.trans ((Ext.refl _).alloc _) hb1
  obtain ⟨A, cp, rfl, hcp, hcell⟩ := hrd
  have HC := Lib.hid hcell
  clear hcell hown
  go_wp2
  go_loopw [9, 3] (fun t s wr => ∃ k : Nat, k ≤ L.length ∧ t = .int .i64 (k : Int) ∧ Own wr w1.heap.size 5 1 bcell s ((L.take k).flatMap two) ∧ Ext w1 wr) (fun t _ _ => L.length - (intOf t).toNat)
  case atStart => exact ⟨0, Nat.zero_le _, rfl, World.ownsRow_nil _ _ _ _, Ext.refl _⟩
  case round =>
    obtain ⟨k, hk, rfl, hown, hx⟩ := hrel
    have HO := Lib.hid hown
    clear hown
    by_cases hlt : k < L.length
    · obtain ⟨g, o, rfl, hg, hcell⟩ := HC.out k L[k] (List.getElem?_eq_getElem hlt)
      have hbx := HB.out L[k] (List.getElem_mem hlt)
      have htk := List.take_succ_eq_append_getElem hlt
      generalize L[k] = x at hcell hbx htk
      have HT := Lib.hid htk
      clear htk
      obtain ⟨x0, x1⟩ := hbx
      have c0 : wr.cell? ⟨g, o + k, none⟩ = some (.int .i64 x) := by rw [Ext.cell hx hg]; simpa using hcell 0 _ rfl
      clear hcell
      have hln : ((L.take k).flatMap two).length ≤ 10000000 := by rw [flat_two_len]; simp; omega
      go_wp2_with (at_builtin; refine app_byte2 HO.out hln hx rfl rfl rfl rfl ?_; intro v1 w2 hown1 hx2)
      have HO1 := Lib.hid hown1
      clear hown1
      go_wp2
      go_roundw
      case rel => exact ⟨k + 1, by omega, by go_num, by rw [HT.out, List.flatMap_append]; exact HO1.out, hx2⟩
      case measure => simp [intOf]; omega
    · obtain rfl : k = L.length := by omega
      have hcv := conv_own (P := Try.prog) Try.underlying65 Try.underlying5 Try.underlying9 HO.out
      rw [List.take_length] at hcv
      go_wp2
      go_ret
      refine ⟨?_, hx1.trans hx⟩
      rw [hdS, ← HL.out]
      rfl
def hdV (a b c d e f : Int) : ByteArray := if pktB a b c d e f then hdS a b c d e f else ⟨#[]⟩
theorem spec_HeaderOf_any (a b c d e f : Int) (w : World) :
    Calls Try.prog 24 #[pktV a b c d e f] w fun en w' => en = .returned (.tuple #[.string (hdV a b c d e f), .bool (pktB a b c d e f)]) ∧ Ext w w' := by
  by_cases hp : pktB a b c d e f = true
  · have HV := Lib.hid (show hdV a b c d e f = hdS a b c d e f by simp [hdV, hp])
    go_enter Try.func24, Try.ntmps24
    go_wp2_with (first | (go_at_call 33; refine (spec_pkGood_any _ _ _ _ _ _ _).mono ?_; rintro e w' ⟨rfl, hb1⟩; have hc1 := Ext.cells hb1; have hs1 := Ext.lts hb1) | (go_at_call 48; refine (spec_pkHeader_any _ _ _ _ _ _ _ hp).mono ?_; rintro e w' ⟨rfl, hb2⟩))
    go_ret2
    refine ⟨by rw [HV.out, hp]; rfl, ?_⟩
    (repeat (first | (with_reducible exact Ext.refl _) | (with_reducible assumption) | (with_reducible apply Ext.alloc) | (with_reducible apply Ext.drew) | (with_reducible apply Ext.drewN) | ((with_reducible refine Ext.setCell ?_ ?_ _); rotate_left; (focus (first | (simp; done) | (simp; omega) | omega))) | (with_reducible refine Ext.trans ?_ (by assumption))))
  · replace hp : pktB a b c d e f = false := by simpa using hp
    have HV := Lib.hid (show hdV a b c d e f = ⟨#[]⟩ by simp [hdV, hp])
    go_enter Try.func24, Try.ntmps24
    go_wp2_with (first | (go_at_call 33; refine (spec_pkGood_any _ _ _ _ _ _ _).mono ?_; rintro e w' ⟨rfl, hb1⟩))
    go_ret2
    refine ⟨by rw [HV.out, hp]; rfl, ?_⟩
    (repeat (first | (with_reducible exact Ext.refl _) | (with_reducible assumption) | (with_reducible apply Ext.alloc) | (with_reducible apply Ext.drew) | (with_reducible apply Ext.drewN) | ((with_reducible refine Ext.setCell ?_ ?_ _); rotate_left; (focus (first | (simp; done) | (simp; omega) | omega))) | (with_reducible refine Ext.trans ?_ (by assumption))))
theorem impl_HeaderOf_any (a b c d e f : Int) (w : World) :
    Calls Try.prog 25 #[pktV a b c d e f] w fun en w' => en = .returned (.tuple #[.string (hdV a b c d e f), .bool (pktB a b c d e f)]) ∧ Ext w w' := by
  by_cases hp : pktB a b c d e f = true
  · have HV := Lib.hid (show hdV a b c d e f = hdS a b c d e f by simp [hdV, hp])
    go_enter Try.func25, Try.ntmps25
    go_wp2_with (first | (go_at_call 36; refine (impl_IsPacket_any _ _ _ _ _ _ _).mono ?_; rintro e w' ⟨rfl, hb1⟩; have hc1 := Ext.cells hb1; have hs1 := Ext.lts hb1) | (go_at_call 49; refine (impl_headerOf_any _ _ _ _ _ _ _ hp).mono ?_; rintro e w' ⟨rfl, hb2⟩))
    go_ret2
    refine ⟨by rw [HV.out, hp]; rfl, ?_⟩
    (repeat (first | (with_reducible exact Ext.refl _) | (with_reducible assumption) | (with_reducible apply Ext.alloc) | (with_reducible apply Ext.drew) | (with_reducible apply Ext.drewN) | ((with_reducible refine Ext.setCell ?_ ?_ _); rotate_left; (focus (first | (simp; done) | (simp; omega) | omega))) | (with_reducible refine Ext.trans ?_ (by assumption))))
  · replace hp : pktB a b c d e f = false := by simpa using hp
    have HV := Lib.hid (show hdV a b c d e f = ⟨#[]⟩ by simp [hdV, hp])
    go_enter Try.func25, Try.ntmps25
    go_wp2_with (first | (go_at_call 36; refine (impl_IsPacket_any _ _ _ _ _ _ _).mono ?_; rintro e w' ⟨rfl, hb1⟩))
    go_ret2
    refine ⟨by rw [HV.out, hp]; rfl, ?_⟩
    (repeat (first | (with_reducible exact Ext.refl _) | (with_reducible assumption) | (with_reducible apply Ext.alloc) | (with_reducible apply Ext.drew) | (with_reducible apply Ext.drewN) | ((with_reducible refine Ext.setCell ?_ ?_ _); rotate_left; (focus (first | (simp; done) | (simp; omega) | omega))) | (with_reducible refine Ext.trans ?_ (by assumption))))
end Go.Proofs.Ytmciiomhcojaaaa
