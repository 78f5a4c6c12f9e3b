/- The law's own text for a number. -/
import Derived.Test.YtifhjhgccknndaaDoorProg
import Derived.Test.YtifhjhgccknndaaDoorMem
namespace Go.Proofs.YtifhjhgccknndaaDoor
open Go.RowKit
set_option maxHeartbeats 400000
set_option linter.unusedSimpArgs false
set_option linter.unusedVariables false

/-- The digits of k (f: fuel), ahead of a text. -/
def digs : Nat → Int → ByteArray → ByteArray
  | 0, _, s => s
  | f + 1, k, s => if k ≤ 0 then s else digs f (k / 10) (strOfNums [48 + k % 10] ++ s)
theorem digs_pos (f : Nat) (k : Int) (s : ByteArray) (h : 0 < k) : digs (f + 1) k s = digs f (k / 10) (strOfNums [48 + k % 10] ++ s) := by
  show (if k ≤ 0 then _ else _) = _
  rw [if_neg (by omega)]
theorem digs_zero (f : Nat) (k : Int) (s : ByteArray) (h : k ≤ 0) : digs f k s = s := by cases f <;> simp [digs, h]
def mtx (k : Int) : ByteArray := ⟨#[109]⟩ ++ digs 40 k ⟨#[]⟩

theorem conv1 (w : World) (x : Int) : (convert 79 9 (.slice (some ⟨w.heap.size, 0, none⟩) 1 1)).run Tryd.prog (w.alloc (.cells #[.int .u8 x] 5)) =
    .ok (.string (strOfNums [x])) (w.alloc (.cells #[.int .u8 x] 5)) :=
  run_convert_bytes_arg (P := Tryd.prog) _ 79 5 Tryd.underlying79 Tryd.underlying5 _ 0 1 1 [x] rfl (fun i hi => by
    match i, hi with
    | 0, _ => simp) 9 Tryd.underlying9
theorem laws_markText_any (k : Int) (w : World) (h0 : 0 < k) (h1 : k < 10000000000) :
    Calls Tryd.prog 40 #[.int .i64 k] w fun e w' => e = .returned (.string (mtx k)) ∧ Ext w w' := by
  go_enter Tryd.func40, Tryd.ntmps40
  go_wp2
  go_loopw [0, 3] (fun t s wr => ∃ (f : Nat) (q : Int) (acc : ByteArray), t = .int .i64 q ∧ s = .string acc ∧ 0 ≤ q ∧ q < 10000000000 ∧ q < 10 ^ f ∧ f ≤ 40 ∧ acc.size + f ≤ 40 ∧ Hid (digs 40 k ⟨#[]⟩ = digs f q acc) ∧ Ext w wr) (fun t _ _ => (intOf t).toNat)
  case atStart => exact ⟨40, k, ⟨#[]⟩, rfl, rfl, by omega, by omega, by omega, by omega, by show 0 + 40 ≤ 40; omega, by show _ = _; rfl, Ext.refl _⟩
  case round =>
    obtain ⟨f, q, acc, rfl, rfl, q0, q1, qf, f40, hs, hd, hx⟩ := hrel
    have hcv := conv1 wr
    by_cases hq : 0 < q
    · obtain ⟨m, rfl⟩ : ∃ m, f = m + 1 := ⟨f - 1, by
        rcases f with _ | f
        · simp at qf; omega
        · simp⟩
      have hsz := strOfNums_size [48 + q % 10]
      simp only [List.length_cons, List.length_nil] at hsz
      have HZ := Lib.hid hsz
      have HF := Lib.hid qf
      have hsz1 : (strOfNums [48 + q % 10]).size ≤ 1 := by omega
      clear hsz qf
      go_wp2
      go_roundw
      case rel => exact ⟨m, q / 10, strOfNums [48 + q % 10] ++ acc, rfl, rfl, by omega, by omega, by have := HF.out; rw [Int.pow_succ] at this; omega, by omega, by rw [ByteArray.size_append, HZ.out]; omega, by have := hd.out; rw [digs_pos m q acc hq] at this; exact this, by (repeat (first | (with_reducible exact Ext.refl _) | (with_reducible assumption) | (with_reducible apply Ext.alloc) | (with_reducible apply Ext.drew) | (with_reducible apply Ext.drewN) | ((with_reducible refine Ext.setCell ?_ ?_ _); rotate_left; (focus (first | (simp; done) | (simp; omega) | omega))) | (with_reducible refine Ext.trans ?_ (by assumption))))⟩
      case measure => simp [intOf]; omega
    · go_wp2
      go_ret
      exact ⟨by have := hd.out; rw [digs_zero f q acc (by omega)] at this; rw [mtx, this]; rfl, hx⟩
end Go.Proofs.YtifhjhgccknndaaDoor
