/- The binary form of attributes, the plain side. -/
import Derived.Test.YtifhjhgccknndaaDoorAttQ
namespace Go.Proofs.YtifhjhgccknndaaDoor
open Go.RowKit
set_option linter.unusedVariables false

/-- Two bytes of a number, the lower first. -/
def wd (n : Int) : List UInt8 := [UInt8.ofNat (n % 256).toNat, UInt8.ofNat (n / 256 % 256).toNat]
theorem wd_len (n : Int) : (wd n).length = 2 := rfl
/-- Zero bytes up to a length. -/
def padTo (k : Nat) (xs : List UInt8) : List UInt8 := xs ++ List.replicate (k - xs.length) 0
theorem padTo_len (k : Nat) (xs : List UInt8) (h : xs.length ≤ k) : (padTo k xs).length = k := by simp [padTo]; omega
theorem padTo_full (k : Nat) (xs : List UInt8) (h : k ≤ xs.length) : padTo k xs = xs := by simp [padTo, Nat.sub_eq_zero_of_le h]
def pad4 (n : Nat) : Nat := (n + 3) / 4 * 4
/-- Length, type, body and zero bytes. -/
def frm (kind : Int) (body : List UInt8) : List UInt8 := padTo (pad4 (4 + body.length)) (wd ((4 + body.length : Nat) : Int) ++ wd kind ++ body)
theorem frm_len (kind : Int) (body : List UInt8) : (frm kind body).length = pad4 (4 + body.length) := by
  unfold frm
  rw [padTo_len]
  simp [wd_len, pad4]
  omega
def stopN (l : List Att) (a b : Nat) : Nat := max (a + 1) (min (endN l a) b)
theorem stopN_gt (l : List Att) (a b : Nat) : a < stopN l a b := by unfold stopN; omega
theorem stopN_le (l : List Att) (a b : Nat) (h : a < b) : stopN l a b ≤ b := by unfold stopN; omega
theorem stopN_is (l : List Att) (a b : Nat) (h : a < l.length) (hb : endN l a ≤ b) : stopN l a b = endN l a := by
  have := endN_lt l a h
  unfold stopN; omega
/-- The binary forms of the attributes from a up to b. -/
def enc (l : List Att) (a b : Nat) : List UInt8 :=
  if h : a < b then
    (match l[a]? with
      | none => []
      | some x => if x.nested then frm (x.type + 32768) (enc l (a + 1) (stopN l a b)) else frm x.type x.data.data.toList) ++ enc l (stopN l a b) b
  else []
termination_by b - a
decreasing_by
  · have := stopN_le l a b h; omega
  · have := stopN_gt l a b; have := stopN_le l a b h; omega
theorem enc_none (l : List Att) (a b : Nat) (h : b ≤ a) : enc l a b = [] := by
  rw [enc, dif_neg (by omega)]
theorem enc_head (l : List Att) (a b : Nat) (ha : a < l.length) (hb : endN l a ≤ b) : enc l a b = (if l[a].nested then frm (l[a].type + 32768) (enc l (a + 1) (endN l a)) else frm l[a].type l[a].data.data.toList) ++ enc l (endN l a) b := by
  have h1 := endN_lt l a ha
  rw [enc, dif_pos (by omega), stopN_is l a b ha hb, List.getElem?_eq_getElem ha]
theorem enc_step (l : List Att) (a b : Nat) (ha : a < l.length) (hb : endN l a ≤ b) : enc l a b = enc l a (endN l a) ++ enc l (endN l a) b := by
  rw [enc_head l a b ha hb, enc_head l a (endN l a) ha (Nat.le_refl _), enc_none l (endN l a) (endN l a) (Nat.le_refl _), List.append_nil]
theorem enc_leaf {l : List Att} (hg : goodB l = true) (a : Nat) (ha : a < l.length) (hn : l[a].nested = false) : enc l a (endN l a) = frm l[a].type l[a].data.data.toList := by
  rw [enc_head l a _ ha (Nat.le_refl _), enc_none l (endN l a) _ (Nat.le_refl _), hn, List.append_nil]
  rfl
theorem enc_nested (l : List Att) (a : Nat) (ha : a < l.length) (hn : l[a].nested = true) : enc l a (endN l a) = frm (l[a].type + 32768) (enc l (a + 1) (endN l a)) := by
  rw [enc_head l a _ ha (Nat.le_refl _), enc_none l (endN l a) _ (Nat.le_refl _), hn, List.append_nil]
  rfl
theorem size_data (s : ByteArray) : s.data.toList.length = s.size := by rw [Array.length_toList]; rfl
theorem szA_mod (x : Att) : szA x % 4 = 0 := by unfold szA; omega
theorem preSz_mod (l : List Att) : ∀ k : Nat, preSz l k % 4 = 0
  | 0 => rfl
  | k + 1 => by
    have := preSz_mod l k
    unfold preSz
    cases l[k]? with
    | none => simpa using this
    | some x => have := szA_mod x; simp only []; omega
theorem enc_len {l : List Att} (hg : goodB l = true) : ∀ (N a b : Nat), b - a ≤ N → a ≤ b → b ≤ l.length → closed l a b → ((enc l a b).length : Int) = preSz l b - preSz l a := by
  intro N
  induction N with
  | zero =>
    intro a b h1 h2 h3 _
    obtain rfl : a = b := by omega
    rw [enc_none l a a (Nat.le_refl _)]
    simp
  | succ N ih =>
    intro a b h1 h2 h3 hc
    by_cases hab : a < b
    · have ha : a < l.length := by omega
      obtain ⟨he0, he1⟩ := endN_lt l a ha
      have heb := hc a (Nat.le_refl _) hab
      have hrest := ih (endN l a) b (by omega) heb h3 (closed_from hc (by omega))
      have hs := preSz_succ l a ha
      rw [enc_step l a b ha heb, List.length_append]
      push_cast
      rw [hrest]
      cases hn : l[a].nested
      · rw [enc_leaf hg a ha hn, frm_len, size_data]
        have he := end_leaf hg a ha hn
        rw [he, hs]
        unfold szA pad4
        omega
      · have hin := ih (a + 1) (endN l a) (by omega) (by omega) he1 (closed_in l a ha)
        have hz := sz_nested hg a ha hn
        have hm1 := preSz_mod l (endN l a)
        have hm2 := preSz_mod l (a + 1)
        rw [enc_nested l a ha hn, frm_len]
        unfold pad4
        omega
    · obtain rfl : a = b := by omega
      rw [enc_none l a a (Nat.le_refl _)]
      simp
/-- How many bytes: at most those of all. -/
theorem enc_bd {l : List Att} (hg : goodB l = true) (a b : Nat) (hab : a ≤ b) (hb : b ≤ l.length) (hc : closed l a b) (hz : preSz l l.length ≤ 6000) : (enc l a b).length ≤ 6000 ∧ (enc l a b).length % 4 = 0 := by
  have h := enc_len hg _ a b (Nat.le_refl _) hab hb hc
  have h1 := preSz_mono hg 0 a (by omega) (by omega)
  have h2 := preSz_mono hg b l.length hb (Nat.le_refl _)
  have h3 := preSz_mod l a
  have h4 := preSz_mod l b
  rw [show preSz l 0 = 0 from rfl] at h1
  omega
theorem frm_nested (kind : Int) (body : List UInt8) (h : body.length % 4 = 0) : frm kind body = wd ((4 + body.length : Nat) : Int) ++ wd kind ++ body := by
  unfold frm
  rw [padTo_full]
  simp [wd_len, pad4]
  omega
/-- Text of bytes. -/
def strU (xs : List UInt8) : ByteArray := ⟨xs.toArray⟩
theorem strU_add (xs ys : List UInt8) : strU xs ++ strU ys = strU (xs ++ ys) := by
  apply ByteArray.ext
  simp [strU]
theorem strU_size (xs : List UInt8) : (strU xs).size = xs.length := by simp [strU, ByteArray.size]
theorem strU_data (s : ByteArray) : strU s.data.toList = s := by
  apply ByteArray.ext
  simp [strU]
theorem strU_wd (n : Int) : strOfNums [n % 256, n / 256 % 256] = strU (wd n) := rfl
theorem strU_nums (xs : List UInt8) : strOfNums (xs.map fun b => (b.toNat : Int)) = strU xs := by
  apply ByteArray.ext
  simp only [strOfNums, strU, List.map_map]
  congr 1
  conv => rhs; rw [← List.map_id xs]
  apply List.map_congr_left
  intro b _
  simp
end Go.Proofs.YtifhjhgccknndaaDoor
