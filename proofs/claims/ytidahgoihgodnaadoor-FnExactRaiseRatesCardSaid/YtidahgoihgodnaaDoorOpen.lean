/- A law's argument that is a slice: what it reads as. -/
import Derived.Test.YtidahgoihgodnaaDoorProg
import Derived.Test.YtidahgoihgodnaaDoorMem
import Derived.Test.YtidahgoihgodnaaDoorBits
import Derived.Deep.Slices
import Derived.ChangeArms
namespace Go.Proofs.YtidahgoihgodnaaDoor
open Go.RowKit Go.WideShapes Go.ChangeShapes Go.Deep
set_option maxRecDepth 20000
set_option maxHeartbeats 400000
set_option linter.unusedSimpArgs false
set_option linter.unusedVariables false
theorem lt_of_cell {w : World} {a : Addr} {v : Value} (h : w.cell? a = some v) : a.block < w.heap.size ∧ a.spot = none := by
  unfold World.cell? at h
  split at h
  · rename_i c e f hh
    refine ⟨lt_of_block hh, ?_⟩
    split at h
    · cases h
    · rename_i hs
      cases ha : a.spot
      · rfl
      · rw [ha] at hs; simp at hs
  · cases h
theorem add_none (b o j : Nat) : (⟨b, o, none⟩ : Addr).add j = ⟨b, o + j, none⟩ := by unfold Addr.add; split <;> simp_all
/-- The elements of a slice, chosen one by one. -/
theorem rd_of_key {α : Type} {W : World} {k : Nat} {cells : α → List Value} {ok : α → Prop} {a : Addr} {len cap : Nat} (hlc : len ≤ cap) (hk : 0 < k) (hck : ∀ x, (cells x).length = k)
    (key : ∀ i, ∃ x : α, i < len → (ok x ∧ ∀ j u, (cells x)[j]? = some u → W.cell? (a.add (i * k + j)) = some u)) :
    ∃ l : List α, l.length = len ∧ Rd W k cells (.slice (some a) len cap) l ∧ ∀ x ∈ l, ok x := by
  obtain ⟨f, hf⟩ := Classical.axiomOfChoice key
  refine ⟨(List.range len).map f, by simp, ⟨some a, cap, by simp, by simpa using hlc, ?_⟩, ?_⟩
  · intro i x hi
    have hil : i < len := by
      have := (List.getElem?_eq_some_iff.1 hi).1
      simpa using this
    have hx : x = f i := by
      simp [hil] at hi
      exact hi.symm
    subst hx
    have h0 := (hf i hil).2
    have hc0 : (cells (f i))[0]? = some ((cells (f i))[0]'(by rw [hck]; exact hk)) := List.getElem?_eq_getElem _
    have h1 := lt_of_cell (h0 0 _ hc0)
    have hblk : (a.add (i * k + 0)).block = a.block := by unfold Addr.add; split <;> rfl
    rw [hblk] at h1
    have hspot : a.spot = none := by
      have h00 := (hf 0 (by omega)).2
      have hc00 : (cells (f 0))[0]? = some ((cells (f 0))[0]'(by rw [hck]; exact hk)) := List.getElem?_eq_getElem _
      have := (lt_of_cell (h00 0 _ hc00)).2
      simpa [Addr.add] using this
    obtain ⟨b, o, sp⟩ := a
    simp at hspot
    subst hspot
    refine ⟨b, o, rfl, h1.1, fun j u hj => ?_⟩
    have := h0 j u hj
    rw [add_none] at this
    rw [show o + i * k + j = o + (i * k + j) by omega]
    exact this
  · intro x hx
    obtain ⟨i, hi, rfl⟩ := List.mem_map.1 hx
    exact (hf i (by simpa using hi)).1

def okClass (x : Cls) : Prop := I64 x.id ∧ I64 x.parent ∧ I64 x.rate ∧ I64 x.ceil ∧ I64 x.burst ∧ I64 x.cburst ∧ I64 x.prio ∧ I64 x.limit
theorem open_ClassS {H : Type} {enc : TypeId × Value → H} {W : World} {base : Nat} {v : Value} {d : DataW H} {p : List MemPlace} {r : Reach} {fuel : Nat} (hval : ∃ a len cap, v = .slice a len cap)
    (hf : DataW.trod enc Tryd.prog W 0 (fun _ => true) true fuel 22 [v] = some (d, p)) : ∃ l : List Cls, Rd W 8 Cls.cells v l ∧ l.length ≤ maxLen ∧ ∀ x ∈ l, okClass x := by
  obtain ⟨a0, len, cap, rfl⟩ := hval
  rcases open_slice Tryd.underlying22 hf with ⟨hcs, _⟩ | ⟨a, len', cap', m, n, D, Pl, hcs, _, hl, hm, hmm, _, hi⟩
  · simp at hcs
    obtain ⟨rfl, rfl, rfl⟩ := hcs
    exact ⟨[], ⟨none, 0, rfl, by simp, by simp⟩, by simp, by simp⟩
  · simp at hcs
    obtain ⟨rfl, rfl, rfl⟩ := hcs
    have hm' : m = cap := by simpa using hmm
    have hC : Tryd.prog.cellsOf 64 = 8 := by kernel_rfl
    have hCi : Tryd.prog.cellsOf 3 = 1 := by kernel_rfl
    have key : ∀ i, ∃ x : Cls, i < len → (okClass x ∧ ∀ j u, x.cells[j]? = some u → W.cell? (a.add (i * 8 + j)) = some u) := by
      intro i
      by_cases hlt : i < len
      · obtain ⟨cs', hc, ht'⟩ := hi i (by omega)
        rw [hC] at hc
        obtain ⟨xs, n', _, hy, hlen, hyl, hfld⟩ := DataW.trod_struct Tryd.underlying64 ht'
        obtain ⟨_, hcl, hat⟩ := World.cells?_some hc
        match cs', hcl with
        | [c0, c1, c2, c3, c4, c5, c6, c7], _ =>
          obtain ⟨y0, hy0⟩ : ∃ y, xs[0]? = some y := ⟨_, List.getElem?_eq_getElem (by rw [hyl]; decide)⟩
          have g0 := hfld 0
          simp [hCi, hy0] at g0
          obtain ⟨z0, e0, _, w0⟩ := DataW.trod_int Tryd.underlying3 g0
          obtain rfl : c0 = .int .i64 z0 := by simpa using e0
          obtain ⟨y1, hy1⟩ : ∃ y, xs[1]? = some y := ⟨_, List.getElem?_eq_getElem (by rw [hyl]; decide)⟩
          have g1 := hfld 1
          simp [hCi, hy1] at g1
          obtain ⟨z1, e1, _, w1⟩ := DataW.trod_int Tryd.underlying3 g1
          obtain rfl : c1 = .int .i64 z1 := by simpa using e1
          obtain ⟨y2, hy2⟩ : ∃ y, xs[2]? = some y := ⟨_, List.getElem?_eq_getElem (by rw [hyl]; decide)⟩
          have g2 := hfld 2
          simp [hCi, hy2] at g2
          obtain ⟨z2, e2, _, w2⟩ := DataW.trod_int Tryd.underlying3 g2
          obtain rfl : c2 = .int .i64 z2 := by simpa using e2
          obtain ⟨y3, hy3⟩ : ∃ y, xs[3]? = some y := ⟨_, List.getElem?_eq_getElem (by rw [hyl]; decide)⟩
          have g3 := hfld 3
          simp [hCi, hy3] at g3
          obtain ⟨z3, e3, _, w3⟩ := DataW.trod_int Tryd.underlying3 g3
          obtain rfl : c3 = .int .i64 z3 := by simpa using e3
          obtain ⟨y4, hy4⟩ : ∃ y, xs[4]? = some y := ⟨_, List.getElem?_eq_getElem (by rw [hyl]; decide)⟩
          have g4 := hfld 4
          simp [hCi, hy4] at g4
          obtain ⟨z4, e4, _, w4⟩ := DataW.trod_int Tryd.underlying3 g4
          obtain rfl : c4 = .int .i64 z4 := by simpa using e4
          obtain ⟨y5, hy5⟩ : ∃ y, xs[5]? = some y := ⟨_, List.getElem?_eq_getElem (by rw [hyl]; decide)⟩
          have g5 := hfld 5
          simp [hCi, hy5] at g5
          obtain ⟨z5, e5, _, w5⟩ := DataW.trod_int Tryd.underlying3 g5
          obtain rfl : c5 = .int .i64 z5 := by simpa using e5
          obtain ⟨y6, hy6⟩ : ∃ y, xs[6]? = some y := ⟨_, List.getElem?_eq_getElem (by rw [hyl]; decide)⟩
          have g6 := hfld 6
          simp [hCi, hy6] at g6
          obtain ⟨z6, e6, _, w6⟩ := DataW.trod_int Tryd.underlying3 g6
          obtain rfl : c6 = .int .i64 z6 := by simpa using e6
          obtain ⟨y7, hy7⟩ : ∃ y, xs[7]? = some y := ⟨_, List.getElem?_eq_getElem (by rw [hyl]; decide)⟩
          have g7 := hfld 7
          simp [hCi, hy7] at g7
          obtain ⟨z7, e7, _, w7⟩ := DataW.trod_int Tryd.underlying3 g7
          obtain rfl : c7 = .int .i64 z7 := by simpa using e7
          refine ⟨⟨z0, z1, z2, z3, z4, z5, z6, z7⟩, fun _ => ⟨⟨i64_of_wf w0, i64_of_wf w1, i64_of_wf w2, i64_of_wf w3, i64_of_wf w4, i64_of_wf w5, i64_of_wf w6, i64_of_wf w7⟩, fun j u hj => ?_⟩⟩
          have hjk : j < 8 := (List.getElem?_eq_some_iff.1 hj).1
          have := hat j hjk
          rw [Go.Deep.add_add] at this
          rw [this]
          exact hj
      · exact ⟨⟨0, 0, 0, 0, 0, 0, 0, 0⟩, fun h => absurd h hlt⟩
    obtain ⟨l, hll, h1, h2⟩ := rd_of_key hl (by omega) Cls.len key
    exact ⟨l, h1, by omega, h2⟩

def okFilter (x : Flt) : Prop := I64 x.prio ∧ I64 x.field ∧ I64 x.mask ∧ I64 x.value ∧ I64 x.target
theorem open_FilterS {H : Type} {enc : TypeId × Value → H} {W : World} {base : Nat} {v : Value} {d : DataW H} {p : List MemPlace} {r : Reach} {fuel : Nat} (hval : ∃ a len cap, v = .slice a len cap)
    (hf : DataW.trod enc Tryd.prog W 0 (fun _ => true) true fuel 23 [v] = some (d, p)) : ∃ l : List Flt, Rd W 5 Flt.cells v l ∧ l.length ≤ maxLen ∧ ∀ x ∈ l, okFilter x := by
  obtain ⟨a0, len, cap, rfl⟩ := hval
  rcases open_slice Tryd.underlying23 hf with ⟨hcs, _⟩ | ⟨a, len', cap', m, n, D, Pl, hcs, _, hl, hm, hmm, _, hi⟩
  · simp at hcs
    obtain ⟨rfl, rfl, rfl⟩ := hcs
    exact ⟨[], ⟨none, 0, rfl, by simp, by simp⟩, by simp, by simp⟩
  · simp at hcs
    obtain ⟨rfl, rfl, rfl⟩ := hcs
    have hm' : m = cap := by simpa using hmm
    have hC : Tryd.prog.cellsOf 68 = 5 := by kernel_rfl
    have hCi : Tryd.prog.cellsOf 3 = 1 := by kernel_rfl
    have key : ∀ i, ∃ x : Flt, i < len → (okFilter x ∧ ∀ j u, x.cells[j]? = some u → W.cell? (a.add (i * 5 + j)) = some u) := by
      intro i
      by_cases hlt : i < len
      · obtain ⟨cs', hc, ht'⟩ := hi i (by omega)
        rw [hC] at hc
        obtain ⟨xs, n', _, hy, hlen, hyl, hfld⟩ := DataW.trod_struct Tryd.underlying68 ht'
        obtain ⟨_, hcl, hat⟩ := World.cells?_some hc
        match cs', hcl with
        | [c0, c1, c2, c3, c4], _ =>
          obtain ⟨y0, hy0⟩ : ∃ y, xs[0]? = some y := ⟨_, List.getElem?_eq_getElem (by rw [hyl]; decide)⟩
          have g0 := hfld 0
          simp [hCi, hy0] at g0
          obtain ⟨z0, e0, _, w0⟩ := DataW.trod_int Tryd.underlying3 g0
          obtain rfl : c0 = .int .i64 z0 := by simpa using e0
          obtain ⟨y1, hy1⟩ : ∃ y, xs[1]? = some y := ⟨_, List.getElem?_eq_getElem (by rw [hyl]; decide)⟩
          have g1 := hfld 1
          simp [hCi, hy1] at g1
          obtain ⟨z1, e1, _, w1⟩ := DataW.trod_int Tryd.underlying3 g1
          obtain rfl : c1 = .int .i64 z1 := by simpa using e1
          obtain ⟨y2, hy2⟩ : ∃ y, xs[2]? = some y := ⟨_, List.getElem?_eq_getElem (by rw [hyl]; decide)⟩
          have g2 := hfld 2
          simp [hCi, hy2] at g2
          obtain ⟨z2, e2, _, w2⟩ := DataW.trod_int Tryd.underlying3 g2
          obtain rfl : c2 = .int .i64 z2 := by simpa using e2
          obtain ⟨y3, hy3⟩ : ∃ y, xs[3]? = some y := ⟨_, List.getElem?_eq_getElem (by rw [hyl]; decide)⟩
          have g3 := hfld 3
          simp [hCi, hy3] at g3
          obtain ⟨z3, e3, _, w3⟩ := DataW.trod_int Tryd.underlying3 g3
          obtain rfl : c3 = .int .i64 z3 := by simpa using e3
          obtain ⟨y4, hy4⟩ : ∃ y, xs[4]? = some y := ⟨_, List.getElem?_eq_getElem (by rw [hyl]; decide)⟩
          have g4 := hfld 4
          simp [hCi, hy4] at g4
          obtain ⟨z4, e4, _, w4⟩ := DataW.trod_int Tryd.underlying3 g4
          obtain rfl : c4 = .int .i64 z4 := by simpa using e4
          refine ⟨⟨z0, z1, z2, z3, z4⟩, fun _ => ⟨⟨i64_of_wf w0, i64_of_wf w1, i64_of_wf w2, i64_of_wf w3, i64_of_wf w4⟩, fun j u hj => ?_⟩⟩
          have hjk : j < 5 := (List.getElem?_eq_some_iff.1 hj).1
          have := hat j hjk
          rw [Go.Deep.add_add] at this
          rw [this]
          exact hj
      · exact ⟨⟨0, 0, 0, 0, 0⟩, fun h => absurd h hlt⟩
    obtain ⟨l, hll, h1, h2⟩ := rd_of_key hl (by omega) Flt.len key
    exact ⟨l, h1, by omega, h2⟩
end Go.Proofs.YtidahgoihgodnaaDoor
