/- What the laid variables give ParseFault's walk, and a law's last step where a variable is named. -/
import Derived.Test.YtnamgkiealfffaaDoorRows
import Derived.Test.YtnamgkiealfffaaDoorPf4
import Derived.ChangeVars
import Derived.LaidMore
import Derived.Stop.Joined
import Derived.Stop.LaidErr
import Derived.MakeChecks
import Derived.SizedLaws
namespace Go.Proofs.YtnamgkiealfffaaDoor
open Go.RowKit Go.WideShapes Go.ChangeShapes Go.ChangeAt Go.Joins Go.Deep
set_option maxRecDepth 20000
set_option maxHeartbeats 1000000
set_option linter.unusedSimpArgs false
set_option linter.unusedVariables false

theorem gFlt : Tryd.prog.globalNamed (Rows.fnExactParseFaultSpec.vars.headD "") = some 0 := by kernel_rfl
theorem tFlt : (Tryd.prog.globals[0]?).map (·.type) = some 64 := by kernel_rfl
theorem cellsFlt : Tryd.prog.cellsOf 64 = 8 := by kernel_rfl
theorem cellsStr : Tryd.prog.cellsOf 9 = 1 := by kernel_rfl
theorem str_of_trod {H : Type} {enc : TypeId × Value → H} {w : World} {base : Nat} {sp : Nat → Bool} {held : Bool} {fuel : Nat} {c : Value} {y : DataW H × List MemPlace}
    (h : DataW.trod enc Tryd.prog w base sp held fuel 9 [c] = some y) : ∃ s : ByteArray, c = .string s ∧ y = (.lit (.string s.data.toList), []) := by
  obtain ⟨s, h1, h2, _⟩ := DataW.trod_string Tryd.underlying9 h
  exact ⟨s, by simpa using h1, h2⟩
theorem bytes_inj {s : ByteArray} {l : List UInt8} (h : s.data.toList = l) : s = ⟨l.toArray⟩ := ba_eq h
set_option maxRecDepth 100000 in
theorem cells_of_laid {W : World} (h : laidMetH Tryd.prog Rows.fnExactParseFaultRow.laid W) : W.var? Tryd.prog (Rows.fnExactParseFaultSpec.vars.headD "") = some kCells := by
  rw [MakeChecks.laidMetH_plain _ _ _ (by kernel_rfl)] at h
  obtain ⟨ps, ⟨g, t, cs, fuel, p, q, hg, ht, hvar, hd, _, _⟩, _⟩ := h.tail.tail.tail.tail.tail
  obtain rfl := Option.some.inj (gFlt.symm.trans hg)
  obtain rfl := Option.some.inj (tFlt.symm.trans ht)
  refine Eq.trans hvar ?_
  congr 1
  obtain ⟨l⟩ := cs
  cases fuel with
  | zero => simp [DataW.trod] at hd
  | succ fuel =>
    simp only [DataW.trod, Tryd.underlying64, cellsFlt, cellsStr] at hd
    split at hd
    · rename_i hl
      obtain ⟨c0, c1, c2, c3, c4, c5, c6, c7, rfl⟩ : ∃ c0 c1 c2 c3 c4 c5 c6 c7, l = [c0, c1, c2, c3, c4, c5, c6, c7] := by
        match l, hl with
        | [c0, c1, c2, c3, c4, c5, c6, c7], _ => exact ⟨c0, c1, c2, c3, c4, c5, c6, c7, rfl⟩
      have e : List.range 8 = [0, 1, 2, 3, 4, 5, 6, 7] := rfl
      rw [e] at hd
      simp only [Option.map_eq_some_iff, List.mapM_cons, List.mapM_nil, Option.bind_eq_bind, Option.bind_eq_some_iff, Option.pure_def, Option.some.injEq] at hd
      obtain ⟨xs, ⟨y0, h0, _, ⟨y1, h1, _, ⟨y2, h2, _, ⟨y3, h3, _, ⟨y4, h4, _, ⟨y5, h5, _, ⟨y6, h6, _, ⟨y7, h7, _, rfl, rfl⟩, rfl⟩, rfl⟩, rfl⟩, rfl⟩, rfl⟩, rfl⟩, rfl⟩, hx⟩ := hd
      obtain ⟨s0, rfl, rfl⟩ := str_of_trod h0
      obtain ⟨s1, rfl, rfl⟩ := str_of_trod h1
      obtain ⟨s2, rfl, rfl⟩ := str_of_trod h2
      obtain ⟨s3, rfl, rfl⟩ := str_of_trod h3
      obtain ⟨s4, rfl, rfl⟩ := str_of_trod h4
      obtain ⟨s5, rfl, rfl⟩ := str_of_trod h5
      obtain ⟨s6, rfl, rfl⟩ := str_of_trod h6
      obtain ⟨s7, rfl, rfl⟩ := str_of_trod h7
      simp [Rows.laid_loop_example_g00838_impl_faultNames] at hx
      obtain ⟨⟨e0, e1, e2, e3, e4, e5, e6, e7⟩, _⟩ := hx
      clear h0 h1 h2 h3 h4 h5 h6 h7
      rw [bytes_inj e0, bytes_inj e1, bytes_inj e2, bytes_inj e3, bytes_inj e4, bytes_inj e5, bytes_inj e6, bytes_inj e7]
      rfl
    · cases hd
theorem flts_of_laid {W : World} (h : laidMetH Tryd.prog Rows.fnExactParseFaultRow.laid W) : Flts W := by
  have hv := cells_of_laid h
  unfold World.var? at hv
  simp only [gFlt, Option.bind_some] at hv
  split at hv
  · rename_i cs t fr hh
    obtain rfl := Option.some.inj hv
    exact ⟨t, fr, hh⟩
  · cases hv
theorem reads_flt {H : Type} (enc : TypeId × Value → H) (W : World) (sp : Nat → Bool) : DataW.trod enc Tryd.prog W 0 sp true 3 64 kCells.toList = some (Rows.laid_loop_example_g00838_impl_faultNames, []) := by kernel_rfl
theorem vars_stay {H : Type} {enc : TypeId × Value → H} {W W' : World} {gs : List (DataW H)} {q : List MemPlace} (hL : laidMetH Tryd.prog Rows.fnExactParseFaultRow.laid W) (hV : DataW.TrodVars enc Tryd.prog W (fun _ => true) Rows.fnExactParseFaultSpec.vars gs q) (hx : Ext W W') :
    gs = [Rows.laid_loop_example_g00838_impl_faultNames] ∧ ∀ sp, DataW.TrodVars enc Tryd.prog W' sp Rows.fnExactParseFaultSpec.vars gs q := by
  have hV1 : DataW.TrodVars enc Tryd.prog W (fun _ => true) [Rows.fnExactParseFaultSpec.vars.headD ""] gs q := hV
  obtain ⟨g, t, cs, fuel, d, p', rfl, hg, ht, hvar, hd, rfl⟩ := trodVars_one hV1
  obtain rfl := Option.some.inj (gFlt.symm.trans hg)
  obtain rfl := Option.some.inj (tFlt.symm.trans ht)
  obtain rfl : cs = kCells := Option.some.inj (hvar.symm.trans (cells_of_laid hL))
  obtain ⟨rfl, rfl⟩ := DataW.Trod.unique (v := .agg kCells) ⟨fuel, hd⟩ ⟨3, reads_flt enc W _⟩
  refine ⟨rfl, fun sp => ?_⟩
  obtain ⟨t', fr, hk⟩ := (flts_of_laid hL).ext hx
  have hvar' : W'.var? Tryd.prog (Rows.fnExactParseFaultSpec.vars.headD "") = some kCells := by
    unfold World.var?
    simp only [gFlt, Option.bind_some, hk]
  exact trodVars_mk1 hg ht hvar' (reads_flt enc W' sp)
theorem rowES (u : TypeId) (h : Tryd.prog.typeName? 3 u = some (match Rows.laid_strconv_ErrSyntax (H := Unit) with | .iface nm _ => nm | _ => "")) : u = 97 :=
  typeName_ptr_named (nm := "errors.errorString") (by kernel_rfl) (by kernel_rfl) (by decide) u (h.trans (congrArg some (by kernel_rfl)))
theorem cellsES : Tryd.prog.cellsOf 99 = 1 := by kernel_rfl
theorem tabs_of_laid {W : World} (h : laidMetH Tryd.prog Rows.fnExactParseFaultRow.laid W) (hsh : W.ShapedOpen Tryd.prog) : Tabs W := by
  have hf := flts_of_laid h
  rw [MakeChecks.laidMetH_plain _ _ _ (by kernel_rfl)] at h
  have h2 := h.tail.tail
  have h3 := h2.tail
  have h4 := h3.tail
  obtain ⟨a0, s0, hv0, -, -, -⟩ := laid_sentinel h3 (g := 3) (by kernel_rfl) (by kernel_rfl) Tryd.underlying57 rowES Tryd.underlying97 Tryd.underlying99 rfl rfl Tryd.underlying9 cellsES cellsStr
  obtain ⟨a1, s1, hv1, -, -, -⟩ := laid_sentinel h4 (g := 2) (by kernel_rfl) (by kernel_rfl) Tryd.underlying57 rowES Tryd.underlying97 Tryd.underlying99 rfl rfl Tryd.underlying9 cellsES cellsStr
  exact ⟨hf, Lib.tabIs_of_head (g := 4) (by kernel_rfl) (by kernel_rfl) Tryd.underlying101 Tryd.underlying79 (by kernel_rfl) (by kernel_rfl) h2, ⟨_, _, hv1⟩, ⟨_, _, hv0⟩, Tryd.laysM145.s1_3 W hsh⟩
/-- A law's last step, where variables are named: it has answered true, and only new blocks were made. -/
theorem law_postV {H : Type} {enc : TypeId × Value → H} {P : Program} (hl : laidOutB P = true) {f : Func} {s : ChangeSpec} {W W' : World} {args : Array Value} {ds gs : List (DataW H)} {before p q : List MemPlace} {tb : TypeId}
    (hW : DataW.Whole enc P f.params.toList s.vars false W args.toList ds gs before) (hbe : before = p ++ q)
    (hA : DataW.TrodAll enc P W 0 (fun _ => true) true f.params.toList args.toList ds p)
    (hts : ∀ t ∈ f.params.toList, P.readableRec t = true ∧ t < P.types.size)
    (hrt : f.resultTypes = #[tb]) (hb : P.underlying tb = some .bool)
    (hr : (s.fn H (ds ++ gs)).results = [.lit (.bool true)]) (ha : (s.fn H (ds ++ gs)).args = ds) (hv : (s.fn H (ds ++ gs)).vars = gs)
    (hV : ∀ sp : Nat → Bool, DataW.TrodVars enc P W' sp s.vars gs q)
    (hx : Ext W W') : s.post enc P f false true false false W args (.bool true) W' := by
  have hlt : ∀ x ∈ before, x.block < W.heap.size := fun x hx' => hW.lt x hx'
  refine ⟨ds, gs, before, [], p, q, hW, ?_, ?_, ?_, World.keptBut_mono (fun x hx' => ⟨hx', Or.inr ?_⟩) (Below.frame hx (· ∈ before)), fun h => by cases h⟩
  · rw [hr, hrt]
    exact trodAll_mk1 (shut_bool hb true)
  · rw [ha]
    exact trodAll_stays hl _ _ _ _ hts hA (fun x hx' => Below.same hx (hlt x (by rw [hbe]; simp [hx']))) (fun x hx' => by simpa using hlt x (by rw [hbe]; simp [hx']))
  · rw [hv]
    exact hV _
  · rw [hbe] at hx'
    exact List.mem_append.1 hx'
/-- The builder that hands over both what is laid and the world's shape. -/
theorem returnsInHanded_shaped_and {H : Type} {enc : TypeId × Value → H} {a : Assume} {C : Checked} {os : Os} {f : FuncId} {fn : Func} {s : ChangeSpec} {conds : List PathCond} {apart fresh handsOn again : Bool} {X : World → Array Value → Prop}
    (hX : ∀ (w w' : World) (args : Array Value), w.heap = w'.heap → X w args → X w' args)
    (own : ownKnob C.prog.godebug = none) (started : os.Started) (noInit : C.prog.inits.idxOf? f = none) (hfn : C.prog.funcs[f]? = some fn)
    (witness : ∃ (w : World) (tape : Tape) (i : Input), w.os = os ∧ (w.forCall tape i).Shaped C.prog ∧ i.vars = [] ∧ Input.okWide C.prog (w.forCall tape i) .any w.heap.size f i ∧
      ((s.pre enc C.prog fn conds apart (w.forCall tape i).memory i.args ∧ X (w.forCall tape i).memory i.args) ∧ sizedMet enc C.prog fn (OpenSpec.ofChange s) apart (w.forCall tape i).memory i.args) ∧ a.holds C.prog (lone (Frame.enter C.prog f i.args .normal) [] (w.forCall tape i)))
    (contract : ∀ (W : World) (base : Nat) (args : Array Value) (ds gs : List (DataW H)) (before : List MemPlace),
      (∀ (j : Nat) t v, fn.params[j]? = some t → args[j]? = some v → Value.okWide C.prog W .any base t v) →
      DataW.Whole enc C.prog fn.params.toList s.vars apart W args.toList ds gs before → X W args → W.ShapedOpen C.prog →
      Calls C.prog f args W fun e W' => ∃ v, e = .returned v ∧ s.post enc C.prog fn apart fresh handsOn again W args v W') :
    ReturnsInHanded a C os f .any (fun w args => (s.pre enc C.prog fn conds apart w args ∧ X w args) ∧ sizedMet enc C.prog fn (OpenSpec.ofChange s) apart w args) (s.post enc C.prog fn apart fresh handsOn again) := by
  refine returnsInHanded_of_calls own started noInit witness ?_
  intro w tape i _ hsh _ hok hpre hholds
  obtain ⟨_, _, _, fn', hfn', _, _, _, _, hval⟩ := hok
  have e : fn' = fn := Option.some.inj (hfn'.symm.trans hfn)
  subst e
  obtain ⟨⟨⟨ds, gs, before, hw, hc⟩, hx⟩, hz⟩ := hpre
  have hw' := DataW.Whole.of_heap (w' := w.forCall tape i) (by rfl) hw
  refine (contract (w.forCall tape i) w.heap.size i.args ds gs before hval hw' (hX _ _ _ (by rfl) hx) hsh).mono fun e W' ⟨v, he, hp⟩ => ?_
  subst he
  exact ChangeSpec.post_blind hp
theorem laws_eqFault_same (k n : Int) (w : World) :
    Calls Tryd.prog 14 #[fltV k n, fltV k n] w fun e w' => e = .returned (.bool true) ∧ Ext w w' := by
  have h1 : (k != k) = false := by simp
  have h2 : (n != n) = false := by simp
  go_enter Tryd.func14, Tryd.ntmps14
  go_wp2
  go_ret
  exact ⟨rfl, by (repeat (first | (with_reducible exact Ext.refl _) | (with_reducible assumption) | (with_reducible apply Ext.alloc) | (with_reducible apply Ext.drew) | (with_reducible apply Ext.drewN) | ((with_reducible refine Ext.setCell ?_ ?_ _); rotate_left; (focus (first | (simp; done) | (simp; omega) | omega))) | (with_reducible refine Ext.trans ?_ (by assumption))))⟩
theorem isF_one {s : ByteArray} {k n k' n' : Int} (h : IsF s k n) (h' : IsF s k' n') : k = k' ∧ n = n' := by
  obtain ⟨j, rfl, hj, _, _, _, _, h7, _, _, h10⟩ := isF_parts h
  obtain ⟨j', rfl, hj', _, _, _, _, h7', _, _, h10'⟩ := isF_parts h'
  have e1 : j = j' := nmK_inj hj hj' (h7.symm.trans h7')
  have e2 := h10.symm.trans h10'
  injection e2 with e2
  exact ⟨by rw [e1], e2⟩
theorem ans_one {s : ByteArray} {k n k' n' : Int} {ok ok' : Bool} (h : (ok = true ∧ IsF s k n) ∨ (ok = false ∧ k = 0 ∧ n = 0 ∧ ∀ k n, ¬ IsF s k n)) (h' : (ok' = true ∧ IsF s k' n') ∨ (ok' = false ∧ k' = 0 ∧ n' = 0 ∧ ∀ k n, ¬ IsF s k n)) : k = k' ∧ n = n' ∧ ok = ok' := by
  rcases h with ⟨rfl, h⟩ | ⟨rfl, rfl, rfl, hno⟩
  · rcases h' with ⟨rfl, h'⟩ | ⟨_, _, _, hno'⟩
    · exact ⟨(isF_one h h').1, (isF_one h h').2, rfl⟩
    · exact absurd h (hno' _ _)
  · rcases h' with ⟨_, h'⟩ | ⟨rfl, rfl, rfl, _⟩
    · exact absurd h' (hno _ _)
    · exact ⟨rfl, rfl, rfl⟩
end Go.Proofs.YtnamgkiealfffaaDoor
