/- What the table of key words gives, and a law's last step where a variable is named. -/
import Derived.Test.YtidahgoihgodnaaDoorRows
import Derived.Test.YtidahgoihgodnaaDoorKey
import Derived.Test.YtidahgoihgodnaaDoorCfgS
import Derived.Test.YtidahgoihgodnaaDoorOpen
import Derived.ChangeVars
import Derived.LaidMore
import Derived.Stop.Joined
import Derived.MakeChecks
namespace Go.Proofs.YtidahgoihgodnaaDoor
open Go.RowKit Go.WideShapes Go.ChangeShapes Go.ChangeAt Go.Joins Go.Deep
set_option maxRecDepth 20000
set_option maxHeartbeats 1000000
set_option linter.unusedSimpArgs false
set_option linter.unusedVariables false

theorem gKey : Tryd.prog.globalNamed (Rows.fnExactSetLimitSpec.vars.headD "") = some 0 := by kernel_rfl
theorem tKey : (Tryd.prog.globals[0]?).map (·.type) = some 85 := by kernel_rfl
theorem cellsKey : Tryd.prog.cellsOf 85 = 14 := by kernel_rfl
theorem cellsStr : Tryd.prog.cellsOf 9 = 1 := by kernel_rfl
set_option maxRecDepth 100000 in
theorem door_met (os : Os) (args : Array Value) : laidMetH Tryd.prog Rows.fnExactSetLimitRow.laid ((World.doorLaid Tryd.prog 400 os).forCall (fun _ _ => 0) ⟨#[], args, []⟩).memory :=
  laidMetH_of_parts3 (fuel := 8) (laidMet_of_run' 8 (by kernel_rfl) (by kernel_rfl)) (by kernel_rfl) (by kernel_rfl)
theorem str_of_trod {H : Type} {enc : TypeId × Value → H} {w : World} {base : Nat} {sp : Nat → Bool} {held : Bool} {fuel : Nat} {c : Value} {y : DataW H × List MemPlace}
    (h : DataW.trod enc Tryd.prog w base sp held fuel 9 [c] = some y) : ∃ s : ByteArray, c = .string s ∧ y = (.lit (.string s.data.toList), []) := by
  obtain ⟨s, h1, h2, _⟩ := DataW.trod_string Tryd.underlying9 h
  exact ⟨s, by simpa using h1, h2⟩
theorem bytes_inj {s : ByteArray} {l : List UInt8} (h : s.data.toList = l) : s = ⟨l.toArray⟩ := by
  apply ByteArray.ext
  rw [← h]
set_option maxRecDepth 100000 in
theorem cells_of_laid {W : World} (h : laidMetH Tryd.prog Rows.fnExactSetLimitRow.laid W) : W.var? Tryd.prog (Rows.fnExactSetLimitSpec.vars.headD "") = some keyCells := by
  rw [MakeChecks.laidMetH_plain _ _ _ (by kernel_rfl)] at h
  obtain ⟨ps, ⟨g, t, cs, fuel, p, q, hg, ht, hvar, hd, _, _⟩, _⟩ := h
  obtain rfl := Option.some.inj (gKey.symm.trans hg)
  obtain rfl := Option.some.inj (tKey.symm.trans ht)
  refine Eq.trans hvar ?_
  congr 1
  obtain ⟨l⟩ := cs
  cases fuel with
  | zero => simp [DataW.trod] at hd
  | succ fuel =>
    simp only [DataW.trod, Tryd.underlying85, cellsKey, cellsStr] at hd
    split at hd
    · rename_i hl
      obtain ⟨c0, c1, c2, c3, c4, c5, c6, c7, c8, c9, c10, c11, c12, c13, rfl⟩ : ∃ c0 c1 c2 c3 c4 c5 c6 c7 c8 c9 c10 c11 c12 c13, l = [c0, c1, c2, c3, c4, c5, c6, c7, c8, c9, c10, c11, c12, c13] := by
        match l, hl with
        | [c0, c1, c2, c3, c4, c5, c6, c7, c8, c9, c10, c11, c12, c13], _ => exact ⟨c0, c1, c2, c3, c4, c5, c6, c7, c8, c9, c10, c11, c12, c13, rfl⟩
      have e : List.range 14 = [0, 1, 2, 3, 4, 5, 6, 7, 8, 9, 10, 11, 12, 13] := rfl
      rw [e] at hd
      simp only [Option.map_eq_some_iff, List.mapM_cons, List.mapM_nil, Option.bind_eq_bind, Option.bind_eq_some_iff, Option.pure_def, Option.some.injEq] at hd
      obtain ⟨xs, ⟨y0, h0, _, ⟨y1, h1, _, ⟨y2, h2, _, ⟨y3, h3, _, ⟨y4, h4, _, ⟨y5, h5, _, ⟨y6, h6, _, ⟨y7, h7, _, ⟨y8, h8, _, ⟨y9, h9, _, ⟨y10, h10, _, ⟨y11, h11, _, ⟨y12, h12, _, ⟨y13, h13, _, rfl, rfl⟩, rfl⟩, rfl⟩, rfl⟩, rfl⟩, rfl⟩, rfl⟩, rfl⟩, rfl⟩, rfl⟩, rfl⟩, rfl⟩, rfl⟩, rfl⟩, hx⟩ := hd
      obtain ⟨s0, rfl, rfl⟩ := str_of_trod h0
      obtain ⟨s1, rfl, rfl⟩ := str_of_trod h1
      obtain ⟨s2, rfl, rfl⟩ := str_of_trod h2
      obtain ⟨s3, rfl, rfl⟩ := str_of_trod h3
      obtain ⟨s4, rfl, rfl⟩ := str_of_trod h4
      obtain ⟨s5, rfl, rfl⟩ := str_of_trod h5
      obtain ⟨s6, rfl, rfl⟩ := str_of_trod h6
      obtain ⟨s7, rfl, rfl⟩ := str_of_trod h7
      obtain ⟨s8, rfl, rfl⟩ := str_of_trod h8
      obtain ⟨s9, rfl, rfl⟩ := str_of_trod h9
      obtain ⟨s10, rfl, rfl⟩ := str_of_trod h10
      obtain ⟨s11, rfl, rfl⟩ := str_of_trod h11
      obtain ⟨s12, rfl, rfl⟩ := str_of_trod h12
      obtain ⟨s13, rfl, rfl⟩ := str_of_trod h13
      simp [Rows.laid_loop_example_g00838_impl_keyWords] at hx
      obtain ⟨⟨e0, e1, e2, e3, e4, e5, e6, e7, e8, e9, e10, e11, e12, e13⟩, _⟩ := hx
      clear h0 h1 h2 h3 h4 h5 h6 h7 h8 h9 h10 h11 h12 h13
      rw [bytes_inj e0, bytes_inj e1, bytes_inj e2, bytes_inj e3, bytes_inj e4, bytes_inj e5, bytes_inj e6, bytes_inj e7, bytes_inj e8, bytes_inj e9, bytes_inj e10, bytes_inj e11, bytes_inj e12, bytes_inj e13]
      rfl
    · cases hd

theorem keys_of_laid {W : World} (h : laidMetH Tryd.prog Rows.fnExactSetLimitRow.laid W) : Keys W := by
  have hv := cells_of_laid h
  unfold World.var? at hv
  simp only [gKey, Option.bind_some] at hv
  split at hv
  · rename_i cs t fr hh
    obtain rfl := Option.some.inj hv
    exact ⟨t, fr, hh⟩
  · cases hv
theorem reads_key {H : Type} (enc : TypeId × Value → H) (W : World) (sp : Nat → Bool) : DataW.trod enc Tryd.prog W 0 sp true 3 85 keyCells.toList = some (Rows.laid_loop_example_g00838_impl_keyWords, []) := by kernel_rfl
theorem vars_stay {H : Type} {enc : TypeId × Value → H} {W W' : World} {gs : List (DataW H)} {q : List MemPlace} (hL : laidMetH Tryd.prog Rows.fnExactSetLimitRow.laid W) (hV : DataW.TrodVars enc Tryd.prog W (fun _ => true) Rows.fnExactSetLimitSpec.vars gs q) (hx : Ext W W') :
    gs = [Rows.laid_loop_example_g00838_impl_keyWords] ∧ ∀ sp, DataW.TrodVars enc Tryd.prog W' sp Rows.fnExactSetLimitSpec.vars gs q := by
  have hV1 : DataW.TrodVars enc Tryd.prog W (fun _ => true) [Rows.fnExactSetLimitSpec.vars.headD ""] gs q := hV
  obtain ⟨g, t, cs, fuel, d, p', rfl, hg, ht, hvar, hd, rfl⟩ := trodVars_one hV1
  obtain rfl := Option.some.inj (gKey.symm.trans hg)
  obtain rfl := Option.some.inj (tKey.symm.trans ht)
  obtain rfl : cs = keyCells := Option.some.inj (hvar.symm.trans (cells_of_laid hL))
  obtain ⟨rfl, rfl⟩ := DataW.Trod.unique (v := .agg keyCells) ⟨fuel, hd⟩ ⟨3, reads_key enc W _⟩
  refine ⟨rfl, fun sp => ?_⟩
  obtain ⟨t', fr, hk⟩ := (keys_of_laid hL).ext hx
  have hvar' : W'.var? Tryd.prog (Rows.fnExactSetLimitSpec.vars.headD "") = some keyCells := by
    unfold World.var?
    simp only [gKey, Option.bind_some, hk]
  exact trodVars_mk1 hg ht hvar' (reads_key enc W' sp)

/-- A law's last step, where variables are named: it has answered true, and only new blocks were made. -/
theorem law_postV {H : Type} {enc : TypeId × Value → H} {P : Program} (hl : laidOutB P = true) {f : Func} {s : ChangeSpec} {W W' : World} {args : Array Value} {ds gs : List (DataW H)} {before p q : List MemPlace} {tb : TypeId}
    (hW : DataW.Whole enc P f.params.toList s.vars false W args.toList ds gs before) (hbe : before = p ++ q)
    (hA : DataW.TrodAll enc P W 0 (fun _ => true) true f.params.toList args.toList ds p)
    (hts : ∀ t ∈ f.params.toList, P.readableRec t = true ∧ t < P.types.size)
    (hrt : f.resultTypes = #[tb]) (hb : P.underlying tb = some .bool)
    (hr : (s.fn H (ds ++ gs)).results = [.lit (.bool true)]) (ha : (s.fn H (ds ++ gs)).args = ds) (hv : (s.fn H (ds ++ gs)).vars = gs)
    (hV : ∀ sp : Nat → Bool, DataW.TrodVars enc P W' sp s.vars gs q)
    (hx : Ext W W') : s.post enc P f false true false false W args (.bool true) W' := by
  have hlt : ∀ x ∈ before, x.block < W.heap.size := fun x hx' => hW.lt x hx'
  refine ⟨ds, gs, before, [], p, q, hW, ?_, ?_, ?_, World.keptBut_mono (fun x hx' => ⟨hx', Or.inr ?_⟩) (Below.frame hx (· ∈ before)), fun h => by cases h⟩
  · rw [hr, hrt]
    exact trodAll_mk1 (shut_bool hb true)
  · rw [ha]
    exact trodAll_stays hl _ _ _ _ hts hA (fun x hx' => Below.same hx (hlt x (by rw [hbe]; simp [hx']))) (fun x hx' => by simpa using hlt x (by rw [hbe]; simp [hx']))
  · rw [hv]
    exact hV _
  · rw [hbe] at hx'
    exact List.mem_append.1 hx'

theorem slice_form {H : Type} {enc : TypeId × Value → H} {P : Program} {W : World} {v : Value} {x : DataW H × List MemPlace} {fuel : Nat} {t e : TypeId} (ht : P.underlying t = some (.slice e))
    (hf : DataW.trod enc P W 0 (fun _ => true) true fuel t [v] = some x) : ∃ a len cap, v = .slice a len cap := by
  rcases open_slice ht hf with ⟨hcs, _⟩ | ⟨a, len, cap, _, _, _, _, hcs, _⟩
  · exact ⟨_, _, _, by simpa using hcs⟩
  · exact ⟨_, _, _, by simpa using hcs⟩
theorem open_Config {H : Type} {enc : TypeId × Value → H} {W : World} {base : Nat} {v : Value} {d : DataW H} {p : List MemPlace} (hval : Value.okWide Tryd.prog W .any base 25 v) (h : DataW.Trod enc Tryd.prog W 0 (fun _ => true) true 25 v d p) :
    ∃ (n : ByteArray) (cv fv : Value) (dd : Int) (cs : List Cls) (fs : List Flt), v = cfgV n cv fv dd ∧ RdC W cv cs ∧ RdF W fv fs ∧ n.size ≤ maxLen ∧ cs.length ≤ maxLen ∧ fs.length ≤ maxLen ∧ (∀ x ∈ cs, okClass x) ∧ (∀ x ∈ fs, okFilter x) ∧ I64 dd := by
  obtain ⟨v0, v1, v2, v3, y0, y1, y2, y3, m, rfl, _, _, g0, g1, g2, g3⟩ := open_agg4 Tryd.underlying25 (by kernel_rfl) (by kernel_rfl) hval h
  obtain ⟨n, e0, _, hn⟩ := DataW.trod_string Tryd.underlying9 g0
  obtain rfl : v0 = .string n := by simpa using e0
  obtain ⟨z3, e3, _, w3⟩ := DataW.trod_int Tryd.underlying3 g3
  obtain rfl : v3 = .int .i64 z3 := by simpa using e3
  obtain ⟨cs, hc1, hc2, hc3⟩ := open_ClassS (r := .any) (base := 0) (slice_form Tryd.underlying22 g1) (show _ = some (y1.1, y1.2) from g1)
  obtain ⟨fs, hf1, hf2, hf3⟩ := open_FilterS (r := .any) (base := 0) (slice_form Tryd.underlying23 g2) (show _ = some (y2.1, y2.2) from g2)
  exact ⟨n, v1, v2, z3, cs, fs, rfl, hc1, hf1, hn, hc2, hf2, hc3, hf3, i64_of_wf w3⟩
end Go.Proofs.YtidahgoihgodnaaDoor
