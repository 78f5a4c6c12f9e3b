/- Key words and names. -/
import Derived.Test.YtidahgoihgodnaaDoorNum
import Derived.Test.YtidahgoihgodnaaDoorMem
import Derived.Laws.Rows
namespace Go.Proofs.YtidahgoihgodnaaDoor
open Go.RowKit
set_option maxRecDepth 20000
set_option maxHeartbeats 1000000
set_option linter.unusedSimpArgs false
set_option linter.unusedVariables false

def keyList : List ByteArray := [⟨#[113, 100, 105, 115, 99]⟩, ⟨#[100, 101, 102, 97, 117, 108, 116]⟩, ⟨#[99, 108, 97, 115, 115]⟩, ⟨#[114, 97, 116, 101]⟩, ⟨#[99, 101, 105, 108]⟩, ⟨#[98, 117, 114, 115, 116]⟩, ⟨#[99, 98, 117, 114, 115, 116]⟩, ⟨#[112, 114, 105, 111]⟩, ⟨#[108, 105, 109, 105, 116]⟩, ⟨#[102, 105, 108, 116, 101, 114]⟩, ⟨#[115, 111, 117, 114, 99, 101]⟩, ⟨#[100, 101, 115, 116]⟩, ⟨#[112, 111, 114, 116]⟩, ⟨#[109, 97, 114, 107]⟩]
def keyCells : Array Value := #[.string ⟨#[113, 100, 105, 115, 99]⟩, .string ⟨#[100, 101, 102, 97, 117, 108, 116]⟩, .string ⟨#[99, 108, 97, 115, 115]⟩, .string ⟨#[114, 97, 116, 101]⟩, .string ⟨#[99, 101, 105, 108]⟩, .string ⟨#[98, 117, 114, 115, 116]⟩, .string ⟨#[99, 98, 117, 114, 115, 116]⟩, .string ⟨#[112, 114, 105, 111]⟩, .string ⟨#[108, 105, 109, 105, 116]⟩, .string ⟨#[102, 105, 108, 116, 101, 114]⟩, .string ⟨#[115, 111, 117, 114, 99, 101]⟩, .string ⟨#[100, 101, 115, 116]⟩, .string ⟨#[112, 111, 114, 116]⟩, .string ⟨#[109, 97, 114, 107]⟩]
/-- The package's table of key words lies in its block. -/
def Keys (w : World) : Prop := ∃ t fr, w.heap[0]? = some (.cells keyCells t fr)
theorem Keys.ext {w w' : World} (h : Keys w) (hx : Ext w w') : Keys w' := by
  obtain ⟨t, fr, h⟩ := h
  exact ⟨t, fr, (Ext.block hx (lt_of_block h)).trans h⟩
def isKeyB (s : ByteArray) : Bool := keyList.any fun x => x.toList == s.toList
theorem any_step (l : List ByteArray) (s : ByteArray) (k : Nat) (h : k < l.length) : (l.drop k).any (fun x => x.toList == s.toList) = ((l[k].toList == s.toList) || (l.drop (k + 1)).any fun x => x.toList == s.toList) := by
  rw [List.drop_eq_getElem_cons h, List.any_cons]
theorem key_index (k : Nat) (h : k < 14) : ∀ w : World, (Instr.index 85 (.agg keyCells) (.int .i64 (k : Int))).run Tryd.prog w = .ok (.string (keyList[k]'(by simpa [keyList] using h))) w := by
  match k, h with
  | 0, _ => exact fun _ => by kernel_rfl
  | 1, _ => exact fun _ => by kernel_rfl
  | 2, _ => exact fun _ => by kernel_rfl
  | 3, _ => exact fun _ => by kernel_rfl
  | 4, _ => exact fun _ => by kernel_rfl
  | 5, _ => exact fun _ => by kernel_rfl
  | 6, _ => exact fun _ => by kernel_rfl
  | 7, _ => exact fun _ => by kernel_rfl
  | 8, _ => exact fun _ => by kernel_rfl
  | 9, _ => exact fun _ => by kernel_rfl
  | 10, _ => exact fun _ => by kernel_rfl
  | 11, _ => exact fun _ => by kernel_rfl
  | 12, _ => exact fun _ => by kernel_rfl
  | 13, _ => exact fun _ => by kernel_rfl
theorem impl_IsKey_any (s : ByteArray) (w : World) (hk : Keys w) :
    Calls Tryd.prog 83 #[.string s] w fun e w' => e = .returned (.bool (isKeyB s)) ∧ Ext w w' := by
  obtain ⟨t, fr, hb⟩ := hk
  have HB := Lib.hid hb
  clear hb
  have hl : keyList.length = 14 := rfl
  go_enter Tryd.func83, Tryd.ntmps83
  go_wp2_with (refine wpList_load_row rfl 85 (.global 0) rfl 0 rfl t keyCells fr _ HB.out Tryd.underlying85 rfl (by kernel_rfl) ?_)
  go_loopw [6] (fun t wr => ∃ k : Nat, k ≤ 14 ∧ t = .int .i64 (k : Int) ∧ Hid (isKeyB s = (keyList.drop k).any fun x => x.toList == s.toList) ∧ Ext w wr) (fun t _ => 14 - (intOf t).toNat)
  case atStart => exact ⟨0, Nat.zero_le _, rfl, rfl, Ext.refl _⟩
  case round =>
    obtain ⟨k, hk, rfl, hq, hx⟩ := hrel
    by_cases hlt : k < 14
    · have hix := key_index k hlt
      have hst := any_step keyList s k (by rw [hl]; exact hlt)
      generalize keyList[k]'(by simpa [keyList] using hlt) = y at hix hst
      have HST := Lib.hid hst
      clear hst
      cases he : (y.toList == s.toList)
      · have HE := Lib.hid he
        go_wp2
        go_roundw
        case rel => exact ⟨k + 1, by omega, by go_num, by have := hq.out; rw [HST.out, HE.out] at this; show _ = _; simpa using this, hx⟩
        case measure => simp [intOf]; omega
      · have HE := Lib.hid he
        go_wp2
        go_ret
        exact ⟨by have := hq.out; rw [HST.out, HE.out] at this; rw [this]; rfl, hx⟩
    · obtain rfl : k = 14 := by omega
      go_wp2
      go_ret
      exact ⟨by have := hq.out; rw [show keyList.drop 14 = [] from rfl] at this; rw [this]; rfl, hx⟩

def scell (x : ByteArray) : List Value := [.string x]
theorem scell_len (x : ByteArray) : (scell x).length = 1 := rfl
theorem flat_scell (l : List ByteArray) : l.flatMap scell = l.map Value.string := by
  induction l with
  | nil => rfl
  | cons x l ih => rw [List.flatMap_cons, ih]; rfl
abbrev RdS (w : World) (v : Value) (l : List ByteArray) : Prop := Rd w 1 scell v l

theorem spec_tkKeys_any (w : World) :
    Calls Tryd.prog 89 #[] w fun e w' => ∃ u, e = .returned u ∧ RdS w' u keyList ∧ Ext w w' := by
  go_enter Tryd.func89, Tryd.ntmps89
  go_wp2
  go_ret
  refine ⟨_, rfl, ?_, (Ext.refl _).alloc _⟩
  have := World.ownsRow_lit (base := w.heap.size) (e := 9) (size := 1) w keyCells 14 (Nat.le_refl _) (by unfold maxLen; omega) rfl
  exact Own.rd (l := keyList) (cells := scell) (e := 9) (base := w.heap.size) this scell_len
theorem spec_l1HasS_any (v : Value) (l : List ByteArray) (s : ByteArray) (w : World) (h : RdS w v l) (hl : l.length ≤ 1048576) :
    Calls Tryd.prog 88 #[v, .string s] w fun e w' => e = .returned (.bool (l.any fun x => x.toList == s.toList)) ∧ Ext w w' := by
  obtain ⟨A, c, rfl, hc, hrd⟩ := h
  have HR := Lib.hid hrd
  clear hrd
  go_enter Tryd.func88, Tryd.ntmps88
  go_wp2
  go_loopw [9] (fun t wr => ∃ k : Nat, k ≤ l.length ∧ t = .int .i64 (k : Int) ∧ Hid ((l.any fun x => x.toList == s.toList) = (l.drop k).any fun x => x.toList == s.toList) ∧ Ext w wr) (fun t _ => l.length - (intOf t).toNat)
  case atStart => exact ⟨0, Nat.zero_le _, rfl, rfl, Ext.refl _⟩
  case round =>
    obtain ⟨k, hk, rfl, hq, hx⟩ := hrel
    by_cases hlt : k < l.length
    · obtain ⟨b, o, rfl, hb, hcell⟩ := HR.out k l[k] (List.getElem?_eq_getElem hlt)
      have hst := any_step l s k hlt
      generalize l[k] = y at hcell hst
      have HST := Lib.hid hst
      have c0 : wr.cell? ⟨b, o + k, none⟩ = some (.string y) := by rw [Ext.cell hx hb]; simpa using hcell 0 _ rfl
      clear hst hcell
      cases he : (y.toList == s.toList)
      · have HE := Lib.hid he
        go_wp2
        go_roundw
        case rel => exact ⟨k + 1, by omega, by go_num, by have := hq.out; rw [HST.out, HE.out] at this; show _ = _; simpa using this, hx⟩
        case measure => simp [intOf]; omega
      · have HE := Lib.hid he
        go_wp2
        go_ret
        exact ⟨by have := hq.out; rw [HST.out, HE.out] at this; rw [this]; rfl, hx⟩
    · obtain rfl : k = l.length := by omega
      go_wp2
      go_ret
      exact ⟨by have := hq.out; rw [List.drop_length] at this; rw [this]; rfl, hx⟩
theorem spec_IsKey_any (s : ByteArray) (w : World) :
    Calls Tryd.prog 78 #[.string s] w fun e w' => e = .returned (.bool (isKeyB s)) ∧ Ext w w' := by
  go_enter Tryd.func78, Tryd.ntmps78
  go_wp2_with fail
  refine (spec_tkKeys_any _).mono ?_
  rintro e w1 ⟨u, rfl, hr, E1⟩
  have HR := Lib.hid hr
  clear hr
  go_wp2_with fail
  refine (spec_l1HasS_any _ keyList s _ HR.out (by decide)).mono ?_
  rintro e w2 ⟨rfl, F2⟩
  go_wp2
  go_ret
  exact ⟨rfl, E1.trans F2⟩

def smallC (c : UInt8) : Bool := decide (97 ≤ (c.toNat : Int)) && decide ((c.toNat : Int) ≤ 122)
def smallB (s : ByteArray) : Bool := s.data.toList.all smallC
/-- A name: one to eight small letters, no key word. -/
def nameB (s : ByteArray) : Bool := decide (1 ≤ s.size) && decide (s.size ≤ 8) && smallB s && !isKeyB s
theorem small_step (s : ByteArray) (k : Nat) (h : k < s.size) : (s.data.toList.drop k).all smallC = (smallC s[k] && (s.data.toList.drop (k + 1)).all smallC) := by
  rw [List.drop_eq_getElem_cons (by simpa using h), List.all_cons]
  rfl
theorem small_end (s : ByteArray) : (s.data.toList.drop s.size).all smallC = true := by
  rw [List.drop_eq_nil_of_le (by rw [Array.length_toList]; exact Nat.le_refl _)]
  rfl

theorem impl_isSmall_any (c : UInt8) (w : World) :
    Calls Tryd.prog 82 #[.int .u8 (c.toNat : Int)] w fun e w' => e = .returned (.bool (smallC c)) ∧ w = w' := by
  by_cases h1 : 97 ≤ (c.toNat : Int)
  all_goals
    go_enter Tryd.func82, Tryd.ntmps82
    go_wp2
    go_ret
    refine ⟨?_, rfl⟩
    simp [smallC]
    try omega

theorem impl_isName_any (s : ByteArray) (w : World) (hk : Keys w) :
    Calls Tryd.prog 64 #[.string s] w fun e w' => e = .returned (.bool (nameB s)) ∧ Ext w w' := by
  have HK := Lib.hid hk
  clear hk
  by_cases hn : 1 ≤ s.size ∧ s.size ≤ 8
  · obtain ⟨n1, n8⟩ := hn
    have HN := Lib.hid (show nameB s = (smallB s && !isKeyB s) by simp [nameB, n1, n8])
    go_enter Tryd.func64, Tryd.ntmps64
    go_wp2
    go_loopw [3] (fun t wr => ∃ k : Nat, k ≤ s.size ∧ t = .int .i64 (k : Int) ∧ Hid (smallB s = (s.data.toList.drop k).all smallC) ∧ Ext w wr) (fun t _ => s.size - (intOf t).toNat)
    case atStart => exact ⟨0, Nat.zero_le _, rfl, rfl, Ext.refl _⟩
    case round =>
      obtain ⟨k, hk, rfl, hq, hx⟩ := hrel
      by_cases hlt : k < s.size
      · have HST := Lib.hid (small_step s k hlt)
        cases hc : smallC s[k]
        · have HC := Lib.hid hc
          go_wp2_with (go_at_call 82; refine (impl_isSmall_any _ _ ).mono ?_; rintro e w' ⟨rfl, rfl⟩)
          go_ret
          exact ⟨by have := hq.out; rw [HST.out, HC.out] at this; rw [HN.out, this]; rfl, hx⟩
        · have HC := Lib.hid hc
          go_wp2_with (go_at_call 82; refine (impl_isSmall_any _ _ ).mono ?_; rintro e w' ⟨rfl, rfl⟩)
          go_roundw
          case rel => exact ⟨k + 1, by omega, by go_num, by have := hq.out; rw [HST.out, HC.out] at this; show _ = _; simpa using this, hx⟩
          case measure => simp [intOf]; omega
      · obtain rfl : k = s.size := by omega
        have HS := Lib.hid (show smallB s = true by rw [hq.out]; exact small_end s)
        go_wp2_with fail
        refine (impl_IsKey_any _ _ (HK.out.ext hx)).mono ?_
        rintro e w1 ⟨rfl, F1⟩
        go_wp2
        go_ret
        exact ⟨by rw [HN.out, HS.out]; rfl, hx.trans F1⟩
  · have HN := Lib.hid (show nameB s = false by simp [nameB]; omega)
    go_enter Tryd.func64, Tryd.ntmps64
    by_cases hn1 : s.size < 1
    all_goals (go_wp2; go_ret; exact ⟨by rw [HN.out]; rfl, Ext.refl _⟩)

theorem spec_cfName_any (s : ByteArray) (w : World) (hs : s.size ≤ 1048576) :
    Calls Tryd.prog 49 #[.string s] w fun e w' => e = .returned (.bool (nameB s)) ∧ Ext w w' := by
  go_enter Tryd.func49, Tryd.ntmps49
  go_wp2
  go_loopw [3] (fun t wr => ∃ k : Nat, k ≤ s.size ∧ t = .int .i64 (k : Int) ∧ Hid (smallB s = (s.data.toList.drop k).all smallC) ∧ Ext w wr) (fun t _ => s.size - (intOf t).toNat)
  case atStart => exact ⟨0, Nat.zero_le _, rfl, rfl, Ext.refl _⟩
  case round =>
    obtain ⟨k, hk, rfl, hq, hx⟩ := hrel
    by_cases hlt : k < s.size
    · have HST := Lib.hid (small_step s k hlt)
      by_cases h1 : 97 ≤ (s[k].toNat : Int)
      · by_cases h2 : (s[k].toNat : Int) ≤ 122
        · have HC := Lib.hid (show smallC s[k] = true by simp [smallC]; omega)
          go_wp2
          go_roundw
          case rel => exact ⟨k + 1, by omega, by go_num, by have := hq.out; rw [HST.out, HC.out] at this; show _ = _; simpa using this, hx⟩
          case measure => simp [intOf]; omega
        · have HC := Lib.hid (show smallC s[k] = false by simp [smallC]; omega)
          have HN := Lib.hid (show nameB s = false by have := hq.out; rw [HST.out, HC.out] at this; simp [nameB, this])
          go_wp2
          go_ret
          exact ⟨by rw [HN.out]; rfl, hx⟩
      · have HC := Lib.hid (show smallC s[k] = false by simp [smallC]; omega)
        have HN := Lib.hid (show nameB s = false by have := hq.out; rw [HST.out, HC.out] at this; simp [nameB, this])
        go_wp2
        go_ret
        exact ⟨by rw [HN.out]; rfl, hx⟩
    · obtain rfl : k = s.size := by omega
      have HS := Lib.hid (show smallB s = true by rw [hq.out]; exact small_end s)
      by_cases hn : inR (s.size : Int) 1 8 = true
      · have hn' := inR_iff.1 hn
        have HN := Lib.hid (show nameB s = !isKeyB s by
          have h1 : 1 ≤ s.size := by omega
          have h2 : s.size ≤ 8 := by omega
          simp [nameB, HS.out, h1, h2])
        clear hn'
        go_wp2_with (go_at_call 50; refine (spec_l1In_any _ _ _ _ ).mono ?_; rintro e w' ⟨rfl, rfl⟩)
        refine (spec_IsKey_any _ _).mono ?_
        rintro e w1 ⟨rfl, F1⟩
        go_wp2
        go_ret
        exact ⟨by rw [HN.out]; rfl, hx.trans F1⟩
      · replace hn : inR (s.size : Int) 1 8 = false := by simpa using hn
        have HN := Lib.hid (show nameB s = false by
          have := inR_not.1 hn
          simp [nameB]; omega)
        go_wp2_with (go_at_call 50; refine (spec_l1In_any _ _ _ _ ).mono ?_; rintro e w' ⟨rfl, rfl⟩)
        go_ret
        exact ⟨by rw [HN.out]; rfl, hx⟩
end Go.Proofs.YtidahgoihgodnaaDoor
