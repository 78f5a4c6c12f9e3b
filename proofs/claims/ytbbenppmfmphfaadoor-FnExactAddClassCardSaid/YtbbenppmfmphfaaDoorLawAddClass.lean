/- 'FnExactAddClass' answers true for every input, and its arguments read as before, the table of key words being as the program's text lays it. -/
import Derived.Test.YtbbenppmfmphfaaDoorLaid
import Derived.Test.YtbbenppmfmphfaaDoorCards
import Derived.Test.YtbbenppmfmphfaaDoorTie
import Derived.SevenTiedAt
import Derived.Test.YtbbenppmfmphfaaDoorOrdA
import Derived.Deep.RegionWith
import Derived.Deep.DeepCutAuto
import Derived.Deep.RegionHeld3
namespace Go.Proofs.YtbbenppmfmphfaaDoor.LAddClass
open Go.RowKit Go.WideShapes Go.ChangeShapes Go.ChangeAt
set_option maxRecDepth 20000
set_option linter.unusedVariables false
set_option linter.unusedSimpArgs false
set_option maxHeartbeats 4000000
theorem Box.of_blk {w : World} {g : Nat} {t : TypeId} {n : ByteArray} {cv fv : Value} {d : Int} (h : Blk w g t #[.string n, cv, fv, .int .i64 d]) : Box w g n cv fv d := by
  obtain ⟨⟨a, b, c, e⟩, _, l⟩ := C4.blk h
  exact ⟨a, b, c, e, l⟩
theorem walk {H : Type} {enc : TypeId × Value → H} {w : World} {base : Nat} {d0 : DataW H} {p0 : List MemPlace} (hk : Keys w) (v : Value) (hval : Value.okWide Tryd.prog w .any base 25 v) (h0 : DataW.Trod enc Tryd.prog w 0 (fun _ => true) true 25 v d0 p0) (x : Cls) :
    Calls Tryd.prog 3 #[v, clsV x] w fun e w' => e = .returned (.bool true) ∧ Ext w w' := by
  obtain ⟨n, cv, fv, d, cs, fs, rfl, hc, hf, hn, hcl, hfl, _, _, _⟩ := open_Config hval h0
  have HK := Lib.hid hk
  clear hk
  have HC := Lib.hid hc
  have HF := Lib.hid hf
  clear hc hf hval h0
  have E0 : Ext w ((w.alloc (.cells #[.string n, cv, fv, .int .i64 d] 25)).alloc (.cells #[.int .i64 x.id, .int .i64 x.parent, .int .i64 x.rate, .int .i64 x.ceil, .int .i64 x.burst, .int .i64 x.cburst, .int .i64 x.prio, .int .i64 x.limit] 27)) := by (repeat (first | (with_reducible exact Ext.refl _) | (with_reducible assumption) | (with_reducible apply Ext.alloc) | (with_reducible apply Ext.drew) | (with_reducible apply Ext.drewN) | ((with_reducible refine Ext.setCell ?_ ?_ _); rotate_left; (focus (first | (simp; done) | (simp; omega) | omega))) | (with_reducible refine Ext.trans ?_ (by assumption))))
  have BQ := Lib.hid ((Box.new w n cv fv d 25).ext ((Ext.refl _).alloc (.cells #[.int .i64 x.id, .int .i64 x.parent, .int .i64 x.rate, .int .i64 x.ceil, .int .i64 x.burst, .int .i64 x.cburst, .int .i64 x.prio, .int .i64 x.limit] 27)))
  have BY := Lib.hid (show Blk ((w.alloc (.cells #[.string n, cv, fv, .int .i64 d] 25)).alloc (.cells #[.int .i64 x.id, .int .i64 x.parent, .int .i64 x.rate, .int .i64 x.ceil, .int .i64 x.burst, .int .i64 x.cburst, .int .i64 x.prio, .int .i64 x.limit] 27)) (w.heap.size + 1) 27 #[.int .i64 x.id, .int .i64 x.parent, .int .i64 x.rate, .int .i64 x.ceil, .int .i64 x.burst, .int .i64 x.cburst, .int .i64 x.prio, .int .i64 x.limit] by
    have := Blk.new (w.alloc (.cells #[.string n, cv, fv, .int .i64 d] 25)) 27 #[.int .i64 x.id, .int .i64 x.parent, .int .i64 x.rate, .int .i64 x.ceil, .int .i64 x.burst, .int .i64 x.cburst, .int .i64 x.prio, .int .i64 x.limit]
    simpa using this)
  go_enter Tryd.func3, Tryd.ntmps3
  go_wp2_with fail
  refine (laws_szConfig_any n cv fv d cs fs _ (HC.out.ext E0) (HF.out.ext E0) hn hcl hfl).mono ?_
  rintro e w1 ⟨⟨r, rfl, hr⟩, F1⟩
  have E1 := E0.trans F1
  have hs1 := Ext.size F1
  simp at hs1
  by_cases hr0 : r < 0
  · clear hr
    go_wp2
    go_ret
    exact ⟨rfl, E1⟩
  have hsz := hr (by omega)
  clear hr
  have HS := Lib.hid (show ∀ (cv fv : Value) (w : World), Keys w → SrcC w cv cs → SrcF w fv fs → Calls Tryd.prog 6 #[cfgV n cv fv d, clsV x] w (RetC (addR n cs fs d x) w) from fun cv fv w hk hc hf => spec_AddClass_any n cv fv d x cs fs w hk hc hf hsz)
  have HI := Lib.hid (show ∀ (cv fv : Value) (w : World), Keys w → SrcC w cv cs → SrcF w fv fs → Calls Tryd.prog 9 #[cfgV n cv fv d, clsV x] w (RetC (addR n cs fs d x) w) from fun cv fv w hk hc hf => impl_AddClass_any n cv fv d x cs fs w hk hc hf hsz)
  obtain ⟨hl1, hl2⟩ := addR_len n cs fs d x hsz
  generalize addR n cs fs d x = R at HS HI hl1 hl2
  have hok : (R.ok != R.ok) = false := by simp
  have hne : ((1 : Int) + 8 * (R.cls.length : Int) + 5 * (R.flt.length : Int) != 1 + 8 * (R.cls.length : Int) + 5 * (R.flt.length : Int)) = false := by simp
  have nw10 : ¬ w1.heap.size = w.heap.size := by omega
  have nw11 : ¬ w1.heap.size = w.heap.size + 1 := by omega
  obtain ⟨q0, q1, q2, q3, _⟩ := BQ.out.ext F1
  obtain ⟨y0, y1, y2, y3, y4, y5, y6, y7, _⟩ := bcC (BY.out.ext F1)
  go_upto_region 5 with fail
  go_cut [6, 7] (fun s6 s7 wx => ∃ (g : Nat) (A : Option Addr) (k : Nat) (B : Option Addr) (j : Nat), s6 = .pointer (some ⟨g, 0, none⟩) ∧ s7 = .bool R.ok ∧ Hid (Blk wx g 32 #[.string R.name, .slice A R.cls.length k, .slice B R.flt.length j, .int .i64 R.dfl]) ∧ Hid (OwnC wx w1.heap.size (.slice A R.cls.length k) R.cls) ∧ Hid (OwnF wx w1.heap.size (.slice B R.flt.length j) R.flt) ∧ w1.heap.size ≤ g ∧ Ext w1 wx)
  case first =>
    go_region_held3 (fun w' => w'.cell? ⟨w.heap.size, 0, none⟩ = some (.string n) ∧ w'.cell? ⟨w.heap.size, 1, none⟩ = some cv ∧ w'.cell? ⟨w.heap.size, 2, none⟩ = some fv ∧ w'.cell? ⟨w.heap.size, 3, none⟩ = some (.int .i64 d) ∧ w'.cell? ⟨w.heap.size + 1, 0, none⟩ = some (.int .i64 x.id) ∧ w'.cell? ⟨w.heap.size + 1, 1, none⟩ = some (.int .i64 x.parent) ∧ w'.cell? ⟨w.heap.size + 1, 2, none⟩ = some (.int .i64 x.rate) ∧ w'.cell? ⟨w.heap.size + 1, 3, none⟩ = some (.int .i64 x.ceil) ∧ w'.cell? ⟨w.heap.size + 1, 4, none⟩ = some (.int .i64 x.burst) ∧ w'.cell? ⟨w.heap.size + 1, 5, none⟩ = some (.int .i64 x.cburst) ∧ w'.cell? ⟨w.heap.size + 1, 6, none⟩ = some (.int .i64 x.prio) ∧ w'.cell? ⟨w.heap.size + 1, 7, none⟩ = some (.int .i64 x.limit)) (first | (with_reducible exact ⟨q0, q1, q2, q3, y0, y1, y2, y3, y4, y5, y6, y7⟩) | go_keep)
      (first | (go_at_call 7; refine (laws_toConfig_any n cv fv d cs fs _ (HC.out.ext (by (repeat (first | (with_reducible exact Ext.refl _) | (with_reducible assumption) | (with_reducible apply Ext.alloc) | (with_reducible apply Ext.drew) | (with_reducible apply Ext.drewN) | ((with_reducible refine Ext.setCell ?_ ?_ _); rotate_left; (focus (first | (simp; done) | (simp; omega) | omega))) | (with_reducible refine Ext.trans ?_ (by assumption)))))) (HF.out.ext (by (repeat (first | (with_reducible exact Ext.refl _) | (with_reducible assumption) | (with_reducible apply Ext.alloc) | (with_reducible apply Ext.drew) | (with_reducible apply Ext.drewN) | ((with_reducible refine Ext.setCell ?_ ?_ _); rotate_left; (focus (first | (simp; done) | (simp; omega) | omega))) | (with_reducible refine Ext.trans ?_ (by assumption)))))) (by omega) (by omega)).mono ?_; rintro e wa ⟨ca, fa, rfl, OCa, OFa, Fa⟩; have Da : Ext w1 wa := (by (repeat (first | (with_reducible exact Ext.refl _) | (with_reducible assumption) | (with_reducible apply Ext.alloc) | (with_reducible apply Ext.drew) | (with_reducible apply Ext.drewN) | ((with_reducible refine Ext.setCell ?_ ?_ _); rotate_left; (focus (first | (simp; done) | (simp; omega) | omega))) | (with_reducible refine Ext.trans ?_ (by assumption))))); have HCa := Lib.hid (Own.src OCa Cls.len); have HFa := Lib.hid (Own.src OFa Flt.len); clear OCa OFa; obtain ⟨q0, q1, q2, q3, _⟩ := BQ.out.ext (F1.trans Da); obtain ⟨y0, y1, y2, y3, y4, y5, y6, y7, _⟩ := bcC (BY.out.ext (F1.trans Da)); have hszwa := Ext.size Da; have nwa0 : ¬ wa.heap.size = w.heap.size := (by omega); have nwa1 : ¬ wa.heap.size = w.heap.size + 1 := (by omega)) | (go_at_call 8; refine (laws_toClass_any x _).mono ?_; rintro e wb ⟨rfl, Fb⟩; have Db : Ext w1 wb := (by (repeat (first | (with_reducible exact Ext.refl _) | (with_reducible assumption) | (with_reducible apply Ext.alloc) | (with_reducible apply Ext.drew) | (with_reducible apply Ext.drewN) | ((with_reducible refine Ext.setCell ?_ ?_ _); rotate_left; (focus (first | (simp; done) | (simp; omega) | omega))) | (with_reducible refine Ext.trans ?_ (by assumption))))); have HCb := Lib.hid (Src.ext HCa.out (Ext.trans (by (repeat (first | (with_reducible exact Ext.refl _) | (with_reducible assumption) | (with_reducible apply Ext.alloc) | (with_reducible apply Ext.drew) | (with_reducible apply Ext.drewN) | ((with_reducible refine Ext.setCell ?_ ?_ _); rotate_left; (focus (first | (simp; done) | (simp; omega) | omega))) | (with_reducible refine Ext.trans ?_ (by assumption))))) Fb)); have HFb := Lib.hid (Src.ext HFa.out (Ext.trans (by (repeat (first | (with_reducible exact Ext.refl _) | (with_reducible assumption) | (with_reducible apply Ext.alloc) | (with_reducible apply Ext.drew) | (with_reducible apply Ext.drewN) | ((with_reducible refine Ext.setCell ?_ ?_ _); rotate_left; (focus (first | (simp; done) | (simp; omega) | omega))) | (with_reducible refine Ext.trans ?_ (by assumption))))) Fb)); obtain ⟨q0, q1, q2, q3, _⟩ := BQ.out.ext (F1.trans Db); obtain ⟨y0, y1, y2, y3, y4, y5, y6, y7, _⟩ := bcC (BY.out.ext (F1.trans Db)); have hszwb := Ext.size Db; have nwb0 : ¬ wb.heap.size = w.heap.size := (by omega); have nwb1 : ¬ wb.heap.size = w.heap.size + 1 := (by omega)) | (go_at_call 6; refine (HS.out _ _ _ (HK.out.ext (by (repeat (first | (with_reducible exact Ext.refl _) | (with_reducible assumption) | (with_reducible apply Ext.alloc) | (with_reducible apply Ext.drew) | (with_reducible apply Ext.drewN) | ((with_reducible refine Ext.setCell ?_ ?_ _); rotate_left; (focus (first | (simp; done) | (simp; omega) | omega))) | (with_reducible refine Ext.trans ?_ (by assumption)))))) (HCb.out.ext (by (repeat (first | (with_reducible exact Ext.refl _) | (with_reducible assumption) | (with_reducible apply Ext.alloc) | (with_reducible apply Ext.drew) | (with_reducible apply Ext.drewN) | ((with_reducible refine Ext.setCell ?_ ?_ _); rotate_left; (focus (first | (simp; done) | (simp; omega) | omega))) | (with_reducible refine Ext.trans ?_ (by assumption)))))) (HFb.out.ext (by (repeat (first | (with_reducible exact Ext.refl _) | (with_reducible assumption) | (with_reducible apply Ext.alloc) | (with_reducible apply Ext.drew) | (with_reducible apply Ext.drewN) | ((with_reducible refine Ext.setCell ?_ ?_ _); rotate_left; (focus (first | (simp; done) | (simp; omega) | omega))) | (with_reducible refine Ext.trans ?_ (by assumption))))))).mono ?_; rintro e wd ⟨cd, fd, rfl, OCd, OFd, Fd⟩; have Dd : Ext w1 wd := (by (repeat (first | (with_reducible exact Ext.refl _) | (with_reducible assumption) | (with_reducible apply Ext.alloc) | (with_reducible apply Ext.drew) | (with_reducible apply Ext.drewN) | ((with_reducible refine Ext.setCell ?_ ?_ _); rotate_left; (focus (first | (simp; done) | (simp; omega) | omega))) | (with_reducible refine Ext.trans ?_ (by assumption))))); obtain ⟨Ad, kd, rfl, _, _⟩ := Own.rd OCd Cls.len; obtain ⟨Bd, jd, rfl, _, _⟩ := Own.rd OFd Flt.len; have HCd := Lib.hid (Own.mono (base' := w1.heap.size) OCd (by first | omega | (simp; omega))); have HFd := Lib.hid (Own.mono (base' := w1.heap.size) OFd (by first | omega | (simp; omega))); clear OCd OFd; obtain ⟨q0, q1, q2, q3, _⟩ := BQ.out.ext (F1.trans Dd); obtain ⟨y0, y1, y2, y3, y4, y5, y6, y7, _⟩ := bcC (BY.out.ext (F1.trans Dd)); have hszwd := Ext.size Dd; have nwd0 : ¬ wd.heap.size = w.heap.size := (by omega); have nwd1 : ¬ wd.heap.size = w.heap.size + 1 := (by omega); (first | (have TB : Blk wd wb.heap.size 32 #[.string ⟨#[]⟩, .slice none 0 0, .slice none 0 0, .int .i64 0] := Blk.ext (w := wb.alloc (.cells #[.string ⟨#[]⟩, .slice none 0 0, .slice none 0 0, .int .i64 0] 32)) (Blk.new wb 32 #[.string ⟨#[]⟩, .slice none 0 0, .slice none 0 0, .int .i64 0]) (by with_reducible assumption); obtain ⟨⟨z0, z1, z2, z3⟩, ⟨h0, h1, h2, h3⟩, _⟩ := C4.blk TB) | (have TB : Blk wd wa.heap.size 32 #[.string ⟨#[]⟩, .slice none 0 0, .slice none 0 0, .int .i64 0] := Blk.ext (w := wb) (Blk.ext (w := wa.alloc (.cells #[.string ⟨#[]⟩, .slice none 0 0, .slice none 0 0, .int .i64 0] 32)) (Blk.new wa 32 #[.string ⟨#[]⟩, .slice none 0 0, .slice none 0 0, .int .i64 0]) (by with_reducible assumption)) (by with_reducible assumption); obtain ⟨⟨z0, z1, z2, z3⟩, ⟨h0, h1, h2, h3⟩, _⟩ := C4.blk TB) | (have TB : Blk wd w1.heap.size 32 #[.string ⟨#[]⟩, .slice none 0 0, .slice none 0 0, .int .i64 0] := Blk.ext (w := wb) (Blk.ext (w := wa) (Blk.ext (w := (w1.alloc (.cells #[.string ⟨#[]⟩, .slice none 0 0, .slice none 0 0, .int .i64 0] 32)).drew) (Blk.drew (Blk.new w1 32 #[.string ⟨#[]⟩, .slice none 0 0, .slice none 0 0, .int .i64 0])) (by with_reducible assumption)) (by with_reducible assumption)) (by with_reducible assumption); obtain ⟨⟨z0, z1, z2, z3⟩, ⟨h0, h1, h2, h3⟩, _⟩ := C4.blk TB) | skip)))
    · go_wp2_with fail
      go_meet
      exact ⟨wd.heap.size, Ad, kd, Bd, jd, rfl, rfl, Lib.hid (Blk.new _ _ _), Lib.hid (Own.ext HCd.out ((Ext.refl _).alloc _)), Lib.hid (Own.ext HFd.out ((Ext.refl _).alloc _)), by omega, Dd.alloc _⟩
    all_goals
      go_wp2_with fail
      go_meet
      exact ⟨_, Ad, kd, Bd, jd, rfl, rfl, Lib.hid (Blk.set4 TB _ _ _ _), Lib.hid ((((HCd.out.setOff (Own.ne_blk HCd.out TB (by decide)) 0 _).setOff (Own.ne_blk HCd.out TB (by decide)) 1 _).setOff (Own.ne_blk HCd.out TB (by decide)) 2 _).setOff (Own.ne_blk HCd.out TB (by decide)) 3 _), Lib.hid ((((HFd.out.setOff (Own.ne_blk HFd.out TB (by decide)) 0 _).setOff (Own.ne_blk HFd.out TB (by decide)) 1 _).setOff (Own.ne_blk HFd.out TB (by decide)) 2 _).setOff (Own.ne_blk HFd.out TB (by decide)) 3 _), by omega, by (repeat (first | (with_reducible exact Ext.refl _) | (with_reducible assumption) | (with_reducible apply Ext.alloc) | (with_reducible apply Ext.drew) | (with_reducible apply Ext.drewN) | ((with_reducible refine Ext.setCell ?_ ?_ _); rotate_left; (focus (first | (simp; done) | (simp; omega) | omega))) | (with_reducible refine Ext.trans ?_ (by assumption))))⟩
  obtain ⟨g3, A3, k3, B3, j3, rfl, rfl, Z3, V3, G3, hg3, F3⟩ := hcut
  obtain ⟨w3, rfl⟩ : ∃ x : World, x = wc := ⟨_, rfl⟩
  have X3 := Lib.hid (Box.of_blk Z3.out)
  clear q0 q1 q2 q3 y0 y1 y2 y3 y4 y5 y6 y7
  have D3 := F1.trans F3
  have E3 := E0.trans D3
  have hs3 := Ext.size F3
  obtain ⟨q0, q1, q2, q3, _⟩ := BQ.out.ext D3
  go_upto_region 6 with fail
  go_cut [8] (fun s8 wx => ∃ (g : Nat) (A : Option Addr) (k : Nat) (B : Option Addr) (j : Nat), s8 = .pointer (some ⟨g, 0, none⟩) ∧ Hid (Box wx g n (.slice A cs.length k) (.slice B fs.length j) d) ∧ Hid (OwnC wx w3.heap.size (.slice A cs.length k) cs) ∧ Hid (OwnF wx w3.heap.size (.slice B fs.length j) fs) ∧ w3.heap.size ≤ g ∧ Ext w3 wx)
  case first =>
    go_wp2_with fail
    refine (laws_toConfig_any n cv fv d cs fs _ (HC.out.ext E3) (HF.out.ext E3) (by omega) (by omega)).mono ?_
    rintro e wa ⟨ca, fa, rfl, OCa, OFa, Fa⟩
    obtain ⟨Ad, kd, rfl, _, _⟩ := Own.rd OCa Cls.len
    obtain ⟨Bd, jd, rfl, _, _⟩ := Own.rd OFa Flt.len
    have HCd := Lib.hid OCa
    have HFd := Lib.hid OFa
    have hsa := Ext.size Fa
    clear OCa OFa
    go_wp2_with fail
    go_meet
    exact ⟨wa.heap.size, Ad, kd, Bd, jd, rfl, Box.new _ _ _ _ _ _, Own.ext HCd.out ((Ext.refl _).alloc _), Own.ext HFd.out ((Ext.refl _).alloc _), hsa, Fa.alloc _⟩
  obtain ⟨g4, A4, k4, B4, j4, rfl, X4, V4, G4, hg4, F4⟩ := hcut
  obtain ⟨w4, rfl⟩ : ∃ x : World, x = wc := ⟨_, rfl⟩
  clear q0 q1 q2 q3
  have D4 := D3.trans F4
  have E4 := E0.trans D4
  have hs4 := Ext.size F4
  have hg4l := X4.out.2.2.2.2
  have HS4 := Lib.hid (Own.src V4.out Cls.len)
  have HT4 := Lib.hid (Own.src G4.out Flt.len)
  have nw40 : ¬ w4.heap.size = w.heap.size := by omega
  have nw41 : ¬ w4.heap.size = w.heap.size + 1 := by omega
  have nw42 : ¬ w4.heap.size = g4 := by omega
  obtain ⟨q0, q1, q2, q3, _⟩ := X4.out
  obtain ⟨y0, y1, y2, y3, y4, y5, y6, y7, _⟩ := bcC (BY.out.ext D4)
  go_upto_region 7 with fail
  go_cut [9, 10] (fun s9 s10 wx => ∃ (g : Nat) (A : Option Addr) (k : Nat) (B : Option Addr) (j : Nat), s9 = .pointer (some ⟨g, 0, none⟩) ∧ s10 = .bool R.ok ∧ Hid (Blk wx g 32 #[.string R.name, .slice A R.cls.length k, .slice B R.flt.length j, .int .i64 R.dfl]) ∧ Hid (OwnC wx w4.heap.size (.slice A R.cls.length k) R.cls) ∧ Hid (OwnF wx w4.heap.size (.slice B R.flt.length j) R.flt) ∧ w4.heap.size ≤ g ∧ Ext w4 wx)
  case first =>
    go_region_held3 (fun w' => w'.cell? ⟨g4, 0, none⟩ = some (.string n) ∧ w'.cell? ⟨g4, 1, none⟩ = some (.slice A4 cs.length k4) ∧ w'.cell? ⟨g4, 2, none⟩ = some (.slice B4 fs.length j4) ∧ w'.cell? ⟨g4, 3, none⟩ = some (.int .i64 d) ∧ w'.cell? ⟨w.heap.size + 1, 0, none⟩ = some (.int .i64 x.id) ∧ w'.cell? ⟨w.heap.size + 1, 1, none⟩ = some (.int .i64 x.parent) ∧ w'.cell? ⟨w.heap.size + 1, 2, none⟩ = some (.int .i64 x.rate) ∧ w'.cell? ⟨w.heap.size + 1, 3, none⟩ = some (.int .i64 x.ceil) ∧ w'.cell? ⟨w.heap.size + 1, 4, none⟩ = some (.int .i64 x.burst) ∧ w'.cell? ⟨w.heap.size + 1, 5, none⟩ = some (.int .i64 x.cburst) ∧ w'.cell? ⟨w.heap.size + 1, 6, none⟩ = some (.int .i64 x.prio) ∧ w'.cell? ⟨w.heap.size + 1, 7, none⟩ = some (.int .i64 x.limit)) (first | (with_reducible exact ⟨q0, q1, q2, q3, y0, y1, y2, y3, y4, y5, y6, y7⟩) | go_keep)
      (first | (go_at_call 8; refine (laws_toClass_any x _).mono ?_; rintro e wb ⟨rfl, Fb⟩; have Db : Ext w4 wb := (by (repeat (first | (with_reducible exact Ext.refl _) | (with_reducible assumption) | (with_reducible apply Ext.alloc) | (with_reducible apply Ext.drew) | (with_reducible apply Ext.drewN) | ((with_reducible refine Ext.setCell ?_ ?_ _); rotate_left; (focus (first | (simp; done) | (simp; omega) | omega))) | (with_reducible refine Ext.trans ?_ (by assumption))))); have HCb := Lib.hid (Src.ext HS4.out (Ext.trans (by (repeat (first | (with_reducible exact Ext.refl _) | (with_reducible assumption) | (with_reducible apply Ext.alloc) | (with_reducible apply Ext.drew) | (with_reducible apply Ext.drewN) | ((with_reducible refine Ext.setCell ?_ ?_ _); rotate_left; (focus (first | (simp; done) | (simp; omega) | omega))) | (with_reducible refine Ext.trans ?_ (by assumption))))) Fb)); have HFb := Lib.hid (Src.ext HT4.out (Ext.trans (by (repeat (first | (with_reducible exact Ext.refl _) | (with_reducible assumption) | (with_reducible apply Ext.alloc) | (with_reducible apply Ext.drew) | (with_reducible apply Ext.drewN) | ((with_reducible refine Ext.setCell ?_ ?_ _); rotate_left; (focus (first | (simp; done) | (simp; omega) | omega))) | (with_reducible refine Ext.trans ?_ (by assumption))))) Fb)); obtain ⟨q0, q1, q2, q3, _⟩ := X4.out.ext Db; obtain ⟨y0, y1, y2, y3, y4, y5, y6, y7, _⟩ := bcC (BY.out.ext (D4.trans Db)); have hszwb := Ext.size Db; have nwb0 : ¬ wb.heap.size = w.heap.size := (by omega); have nwb1 : ¬ wb.heap.size = w.heap.size + 1 := (by omega); have nwb2 : ¬ wb.heap.size = g4 := (by omega)) | (go_at_call 9; refine (HI.out _ _ _ (HK.out.ext (by (repeat (first | (with_reducible exact Ext.refl _) | (with_reducible assumption) | (with_reducible apply Ext.alloc) | (with_reducible apply Ext.drew) | (with_reducible apply Ext.drewN) | ((with_reducible refine Ext.setCell ?_ ?_ _); rotate_left; (focus (first | (simp; done) | (simp; omega) | omega))) | (with_reducible refine Ext.trans ?_ (by assumption)))))) (HCb.out.ext (by (repeat (first | (with_reducible exact Ext.refl _) | (with_reducible assumption) | (with_reducible apply Ext.alloc) | (with_reducible apply Ext.drew) | (with_reducible apply Ext.drewN) | ((with_reducible refine Ext.setCell ?_ ?_ _); rotate_left; (focus (first | (simp; done) | (simp; omega) | omega))) | (with_reducible refine Ext.trans ?_ (by assumption)))))) (HFb.out.ext (by (repeat (first | (with_reducible exact Ext.refl _) | (with_reducible assumption) | (with_reducible apply Ext.alloc) | (with_reducible apply Ext.drew) | (with_reducible apply Ext.drewN) | ((with_reducible refine Ext.setCell ?_ ?_ _); rotate_left; (focus (first | (simp; done) | (simp; omega) | omega))) | (with_reducible refine Ext.trans ?_ (by assumption))))))).mono ?_; rintro e wd ⟨cd, fd, rfl, OCd, OFd, Fd⟩; have Dd : Ext w4 wd := (by (repeat (first | (with_reducible exact Ext.refl _) | (with_reducible assumption) | (with_reducible apply Ext.alloc) | (with_reducible apply Ext.drew) | (with_reducible apply Ext.drewN) | ((with_reducible refine Ext.setCell ?_ ?_ _); rotate_left; (focus (first | (simp; done) | (simp; omega) | omega))) | (with_reducible refine Ext.trans ?_ (by assumption))))); obtain ⟨Ad, kd, rfl, _, _⟩ := Own.rd OCd Cls.len; obtain ⟨Bd, jd, rfl, _, _⟩ := Own.rd OFd Flt.len; have HCd := Lib.hid (Own.mono (base' := w4.heap.size) OCd (by first | omega | (simp; omega))); have HFd := Lib.hid (Own.mono (base' := w4.heap.size) OFd (by first | omega | (simp; omega))); clear OCd OFd; obtain ⟨q0, q1, q2, q3, _⟩ := X4.out.ext Dd; obtain ⟨y0, y1, y2, y3, y4, y5, y6, y7, _⟩ := bcC (BY.out.ext (D4.trans Dd)); have hszwd := Ext.size Dd; have nwd0 : ¬ wd.heap.size = w.heap.size := (by omega); have nwd1 : ¬ wd.heap.size = w.heap.size + 1 := (by omega); have nwd2 : ¬ wd.heap.size = g4 := (by omega); (first | (have TB : Blk wd wb.heap.size 32 #[.string ⟨#[]⟩, .slice none 0 0, .slice none 0 0, .int .i64 0] := Blk.ext (w := wb.alloc (.cells #[.string ⟨#[]⟩, .slice none 0 0, .slice none 0 0, .int .i64 0] 32)) (Blk.new wb 32 #[.string ⟨#[]⟩, .slice none 0 0, .slice none 0 0, .int .i64 0]) (by with_reducible assumption); obtain ⟨⟨z0, z1, z2, z3⟩, ⟨h0, h1, h2, h3⟩, _⟩ := C4.blk TB) | (have TB : Blk wd w4.heap.size 32 #[.string ⟨#[]⟩, .slice none 0 0, .slice none 0 0, .int .i64 0] := Blk.ext (w := wb) (Blk.ext (w := (w4.alloc (.cells #[.string ⟨#[]⟩, .slice none 0 0, .slice none 0 0, .int .i64 0] 32)).drew) (Blk.drew (Blk.new w4 32 #[.string ⟨#[]⟩, .slice none 0 0, .slice none 0 0, .int .i64 0])) (by with_reducible assumption)) (by with_reducible assumption); obtain ⟨⟨z0, z1, z2, z3⟩, ⟨h0, h1, h2, h3⟩, _⟩ := C4.blk TB) | skip)))
    · go_wp2_with fail
      go_meet
      exact ⟨wd.heap.size, Ad, kd, Bd, jd, rfl, rfl, Lib.hid (Blk.new _ _ _), Lib.hid (Own.ext HCd.out ((Ext.refl _).alloc _)), Lib.hid (Own.ext HFd.out ((Ext.refl _).alloc _)), by omega, Dd.alloc _⟩
    all_goals
      go_wp2_with fail
      go_meet
      exact ⟨_, Ad, kd, Bd, jd, rfl, rfl, Lib.hid (Blk.set4 TB _ _ _ _), Lib.hid ((((HCd.out.setOff (Own.ne_blk HCd.out TB (by decide)) 0 _).setOff (Own.ne_blk HCd.out TB (by decide)) 1 _).setOff (Own.ne_blk HCd.out TB (by decide)) 2 _).setOff (Own.ne_blk HCd.out TB (by decide)) 3 _), Lib.hid ((((HFd.out.setOff (Own.ne_blk HFd.out TB (by decide)) 0 _).setOff (Own.ne_blk HFd.out TB (by decide)) 1 _).setOff (Own.ne_blk HFd.out TB (by decide)) 2 _).setOff (Own.ne_blk HFd.out TB (by decide)) 3 _), by omega, by (repeat (first | (with_reducible exact Ext.refl _) | (with_reducible assumption) | (with_reducible apply Ext.alloc) | (with_reducible apply Ext.drew) | (with_reducible apply Ext.drewN) | ((with_reducible refine Ext.setCell ?_ ?_ _); rotate_left; (focus (first | (simp; done) | (simp; omega) | omega))) | (with_reducible refine Ext.trans ?_ (by assumption))))⟩
  obtain ⟨g5, A5, k5, B5, j5, rfl, rfl, Z5, V5, G5, hg5, F5⟩ := hcut
  obtain ⟨w5, rfl⟩ : ∃ x : World, x = wc := ⟨_, rfl⟩
  have X5 := Lib.hid (Box.of_blk Z5.out)
  clear q0 q1 q2 q3 y0 y1 y2 y3 y4 y5 y6 y7
  have D5 := D4.trans F5
  have E5 := E0.trans D5
  have hs5 := Ext.size F5
  have G35 := F4.trans F5
  obtain ⟨x0, x1, x2, x3, _⟩ := X5.out
  obtain ⟨q0, q1, q2, q3, _⟩ := X3.out.ext G35
  go_wp2_with fail
  clear q0 q1 q2 q3 x0 x1 x2 x3
  refine (laws_eqConfig_any R.name _ _ _ _ R.dfl R.cls R.flt _ (Own.rd V5.out Cls.len) (Own.rd G5.out Flt.len) (Own.rd (V3.out.ext G35) Cls.len) (Own.rd (G3.out.ext G35) Flt.len) (by omega) (by omega)).mono ?_
  rintro e w6 ⟨rfl, F6⟩
  have G6 := F5.trans F6
  have D6 := D5.trans F6
  have E6 := E0.trans D6
  have E6d := E6.drew
  obtain ⟨q0, q1, q2, q3, _⟩ := BQ.out.ext D6
  have X46 := Lib.hid (X4.out.ext G6)
  obtain ⟨x0, x1, x2, x3, _⟩ := X46.out
  go_wp2_with fail
  go_region_with (first | (go_at_call 7; refine (laws_toConfig_any n cv fv d cs fs _ (HC.out.ext E6d) (HF.out.ext E6d) (by omega) (by omega)).mono ?_; rintro e w7 ⟨c7, f7, rfl, OC7, OF7, F7⟩; have HC7 := Lib.hid OC7; have HF7 := Lib.hid OF7; clear OC7 OF7; obtain ⟨s0, s1, s2, s3, _⟩ := X46.out.drew.ext F7) | (go_at_call 10; refine (laws_eqConfig_any n _ _ _ _ d cs fs _ ((Own.rd V4.out Cls.len).ext (G6.drew.trans F7)) ((Own.rd G4.out Flt.len).ext (G6.drew.trans F7)) (Own.rd HC7.out Cls.len) (Own.rd HF7.out Flt.len) (by omega) (by omega)).mono ?_; rintro e w8 ⟨rfl, F8⟩))
  all_goals
    clear q0 q1 q2 q3 x0 x1 x2 x3 s0 s1 s2 s3
    have G68 := Ext.trans ((Ext.refl w6).drew.trans F7) F8
    have D8 := D6.trans G68
    have E8 := E0.trans D8
    have G8 := G6.trans G68
    have G38 := F4.trans G8
    obtain ⟨x0, x1, x2, x3, _⟩ := X46.out.ext G68
    go_wp2_with fail
    clear x0 x1 x2 x3
    refine (laws_markConfig_any n _ _ d cs fs w3.heap.size w3.heap.size _ (V4.out.ext G8) (G4.out.ext G8) (by omega) (by omega)).mono ?_
    rintro e w9 ⟨rfl, _, _, K9⟩
    have hlo : ∀ g, (Value.slice A4 cs.length k4).ownBlock = some g ∨ (Value.slice B4 fs.length j4).ownBlock = some g → w3.heap.size ≤ g ∧ g < w4.heap.size := fun g hg => hg.elim (fun h => Own.lt V4.out g h) (fun h => Own.lt G4.out g h)
    have hx3 := X3.out.2.2.2.2
    have D9 := D8.kb K9 (fun g hg => by have := (hlo g hg).1; simp; omega)
    have E9 := E0.trans D9
    have C3k := Lib.hid ((V3.out.ext G38).kb K9 (fun g hg h => by have := (hlo g h).1; have := (Own.lt V3.out g hg).2; omega))
    have F3k := Lib.hid ((G3.out.ext G38).kb K9 (fun g hg h => by have := (hlo g h).1; have := (Own.lt G3.out g hg).2; omega))
    have G58 := F6.trans G68
    have C5k := Lib.hid ((V5.out.ext G58).kb K9 (fun g hg h => by have := (hlo g h).2; have := (Own.lt V5.out g hg).1; omega))
    have F5k := Lib.hid ((G5.out.ext G58).kb K9 (fun g hg h => by have := (hlo g h).2; have := (Own.lt G5.out g hg).1; omega))
    have X3k := Lib.hid ((X3.out.ext G38).kb K9 (fun h => by have := (hlo _ h).1; omega))
    have X5k := Lib.hid ((X5.out.ext G58).kb K9 (fun h => by have := (hlo _ h).2; omega))
    clear K9 hlo
    obtain ⟨x0, x1, x2, x3, _⟩ := X5k.out
    obtain ⟨q0, q1, q2, q3, _⟩ := X3k.out
    go_wp2_with fail
    clear x0 x1 x2 x3 q0 q1 q2 q3
    refine (laws_eqConfig_any R.name _ _ _ _ R.dfl R.cls R.flt _ (Own.rd C5k.out Cls.len) (Own.rd F5k.out Flt.len) (Own.rd C3k.out Cls.len) (Own.rd F3k.out Flt.len) (by omega) (by omega)).mono ?_
    rintro e w10 ⟨rfl, F10⟩
    have D10 := D9.trans F10
    obtain ⟨x0, x1, x2, x3, _⟩ := X5k.out.ext F10
    go_wp2_with fail
    clear x0 x1 x2 x3
    refine (laws_markConfig_any R.name _ _ R.dfl R.cls R.flt w4.heap.size w4.heap.size _ (C5k.out.ext F10) (F5k.out.ext F10) (by omega) (by omega)).mono ?_
    rintro e w11 ⟨rfl, OM, OG, K11⟩
    have HM := Lib.hid OM
    have HG := Lib.hid OG
    clear OM OG
    have hl5 : ∀ g, (Value.slice A5 R.cls.length k5).ownBlock = some g ∨ (Value.slice B5 R.flt.length j5).ownBlock = some g → w4.heap.size ≤ g ∧ g < w5.heap.size := fun g hg => hg.elim (fun h => Own.lt V5.out g h) (fun h => Own.lt G5.out g h)
    have hbx5 : ∀ g, (Value.slice A5 R.cls.length k5).ownBlock = some g ∨ (Value.slice B5 R.flt.length j5).ownBlock = some g → g ≠ g5 := fun g hg => hg.elim (fun h e => by subst e; exact Own.ne_blk V5.out Z5.out (by decide) h) (fun h e => by subst e; exact Own.ne_blk G5.out Z5.out (by decide) h)
    have D11 := D10.kb K11 (fun g hg => by have := (hl5 g hg).1; simp; omega)
    have C3m := Lib.hid ((C3k.out.ext F10).kb K11 (fun g hg h => by have := (hl5 g h).1; have := (Own.lt V3.out g hg).2; omega))
    have F3m := Lib.hid ((F3k.out.ext F10).kb K11 (fun g hg h => by have := (hl5 g h).1; have := (Own.lt G3.out g hg).2; omega))
    have X3m := Lib.hid ((X3k.out.ext F10).kb K11 (fun h => by have := (hl5 _ h).1; omega))
    have X5m := Lib.hid ((X5k.out.ext F10).kb K11 (fun h => hbx5 _ h rfl))
    clear K11 hl5 hbx5
    obtain ⟨x0, x1, x2, x3, _⟩ := X5m.out
    go_wp2_with fail
    clear x0 x1 x2 x3
    refine (laws_heldConfig_any R.name _ _ R.dfl R.cls.length R.flt.length _ (Own.rd HM.out Cls.len) (Own.rd HG.out Flt.len) (by omega) (by omega)).mono ?_
    rintro e w12 ⟨rfl, F12⟩
    have D12 := D11.trans F12
    have E12 := E0.trans D12
    have hs12 := Ext.size D12
    simp at hs12
    have nw120 : ¬ w12.heap.size = w.heap.size := by omega
    have nw121 : ¬ w12.heap.size = w.heap.size + 1 := by omega
    obtain ⟨q0, q1, q2, q3, _⟩ := BQ.out.ext D12
    obtain ⟨y0, y1, y2, y3, y4, y5, y6, y7, _⟩ := bcC (BY.out.ext D12)
    go_upto_region 24 with fail
    go_cut [14, 15] (fun s14 s15 wx => ∃ (g : Nat) (A : Option Addr) (k : Nat) (B : Option Addr) (j : Nat), s14 = .pointer (some ⟨g, 0, none⟩) ∧ s15 = .bool R.ok ∧ Hid (Blk wx g 32 #[.string R.name, .slice A R.cls.length k, .slice B R.flt.length j, .int .i64 R.dfl]) ∧ Hid (OwnC wx w12.heap.size (.slice A R.cls.length k) R.cls) ∧ Hid (OwnF wx w12.heap.size (.slice B R.flt.length j) R.flt) ∧ w12.heap.size ≤ g ∧ Ext w12 wx)
    case first =>
      go_region_held3 (fun w' => w'.cell? ⟨w.heap.size, 0, none⟩ = some (.string n) ∧ w'.cell? ⟨w.heap.size, 1, none⟩ = some cv ∧ w'.cell? ⟨w.heap.size, 2, none⟩ = some fv ∧ w'.cell? ⟨w.heap.size, 3, none⟩ = some (.int .i64 d) ∧ w'.cell? ⟨w.heap.size + 1, 0, none⟩ = some (.int .i64 x.id) ∧ w'.cell? ⟨w.heap.size + 1, 1, none⟩ = some (.int .i64 x.parent) ∧ w'.cell? ⟨w.heap.size + 1, 2, none⟩ = some (.int .i64 x.rate) ∧ w'.cell? ⟨w.heap.size + 1, 3, none⟩ = some (.int .i64 x.ceil) ∧ w'.cell? ⟨w.heap.size + 1, 4, none⟩ = some (.int .i64 x.burst) ∧ w'.cell? ⟨w.heap.size + 1, 5, none⟩ = some (.int .i64 x.cburst) ∧ w'.cell? ⟨w.heap.size + 1, 6, none⟩ = some (.int .i64 x.prio) ∧ w'.cell? ⟨w.heap.size + 1, 7, none⟩ = some (.int .i64 x.limit)) (first | (with_reducible exact ⟨q0, q1, q2, q3, y0, y1, y2, y3, y4, y5, y6, y7⟩) | go_keep)
        (first | (go_at_call 7; refine (laws_toConfig_any n cv fv d cs fs _ (HC.out.ext (by (repeat (first | (with_reducible exact Ext.refl _) | (with_reducible assumption) | (with_reducible apply Ext.alloc) | (with_reducible apply Ext.drew) | (with_reducible apply Ext.drewN) | ((with_reducible refine Ext.setCell ?_ ?_ _); rotate_left; (focus (first | (simp; done) | (simp; omega) | omega))) | (with_reducible refine Ext.trans ?_ (by assumption)))))) (HF.out.ext (by (repeat (first | (with_reducible exact Ext.refl _) | (with_reducible assumption) | (with_reducible apply Ext.alloc) | (with_reducible apply Ext.drew) | (with_reducible apply Ext.drewN) | ((with_reducible refine Ext.setCell ?_ ?_ _); rotate_left; (focus (first | (simp; done) | (simp; omega) | omega))) | (with_reducible refine Ext.trans ?_ (by assumption)))))) (by omega) (by omega)).mono ?_; rintro e wa ⟨ca, fa, rfl, OCa, OFa, Fa⟩; have Da : Ext w12 wa := (by (repeat (first | (with_reducible exact Ext.refl _) | (with_reducible assumption) | (with_reducible apply Ext.alloc) | (with_reducible apply Ext.drew) | (with_reducible apply Ext.drewN) | ((with_reducible refine Ext.setCell ?_ ?_ _); rotate_left; (focus (first | (simp; done) | (simp; omega) | omega))) | (with_reducible refine Ext.trans ?_ (by assumption))))); have HCa := Lib.hid (Own.src OCa Cls.len); have HFa := Lib.hid (Own.src OFa Flt.len); clear OCa OFa; obtain ⟨q0, q1, q2, q3, _⟩ := BQ.out.ext (D12.trans Da); obtain ⟨y0, y1, y2, y3, y4, y5, y6, y7, _⟩ := bcC (BY.out.ext (D12.trans Da)); have hszwa := Ext.size Da; have nwa0 : ¬ wa.heap.size = w.heap.size := (by omega); have nwa1 : ¬ wa.heap.size = w.heap.size + 1 := (by omega)) | (go_at_call 8; refine (laws_toClass_any x _).mono ?_; rintro e wb ⟨rfl, Fb⟩; have Db : Ext w12 wb := (by (repeat (first | (with_reducible exact Ext.refl _) | (with_reducible assumption) | (with_reducible apply Ext.alloc) | (with_reducible apply Ext.drew) | (with_reducible apply Ext.drewN) | ((with_reducible refine Ext.setCell ?_ ?_ _); rotate_left; (focus (first | (simp; done) | (simp; omega) | omega))) | (with_reducible refine Ext.trans ?_ (by assumption))))); have HCb := Lib.hid (Src.ext HCa.out (Ext.trans (by (repeat (first | (with_reducible exact Ext.refl _) | (with_reducible assumption) | (with_reducible apply Ext.alloc) | (with_reducible apply Ext.drew) | (with_reducible apply Ext.drewN) | ((with_reducible refine Ext.setCell ?_ ?_ _); rotate_left; (focus (first | (simp; done) | (simp; omega) | omega))) | (with_reducible refine Ext.trans ?_ (by assumption))))) Fb)); have HFb := Lib.hid (Src.ext HFa.out (Ext.trans (by (repeat (first | (with_reducible exact Ext.refl _) | (with_reducible assumption) | (with_reducible apply Ext.alloc) | (with_reducible apply Ext.drew) | (with_reducible apply Ext.drewN) | ((with_reducible refine Ext.setCell ?_ ?_ _); rotate_left; (focus (first | (simp; done) | (simp; omega) | omega))) | (with_reducible refine Ext.trans ?_ (by assumption))))) Fb)); obtain ⟨q0, q1, q2, q3, _⟩ := BQ.out.ext (D12.trans Db); obtain ⟨y0, y1, y2, y3, y4, y5, y6, y7, _⟩ := bcC (BY.out.ext (D12.trans Db)); have hszwb := Ext.size Db; have nwb0 : ¬ wb.heap.size = w.heap.size := (by omega); have nwb1 : ¬ wb.heap.size = w.heap.size + 1 := (by omega)) | (go_at_call 9; refine (HI.out _ _ _ (HK.out.ext (by (repeat (first | (with_reducible exact Ext.refl _) | (with_reducible assumption) | (with_reducible apply Ext.alloc) | (with_reducible apply Ext.drew) | (with_reducible apply Ext.drewN) | ((with_reducible refine Ext.setCell ?_ ?_ _); rotate_left; (focus (first | (simp; done) | (simp; omega) | omega))) | (with_reducible refine Ext.trans ?_ (by assumption)))))) (HCb.out.ext (by (repeat (first | (with_reducible exact Ext.refl _) | (with_reducible assumption) | (with_reducible apply Ext.alloc) | (with_reducible apply Ext.drew) | (with_reducible apply Ext.drewN) | ((with_reducible refine Ext.setCell ?_ ?_ _); rotate_left; (focus (first | (simp; done) | (simp; omega) | omega))) | (with_reducible refine Ext.trans ?_ (by assumption)))))) (HFb.out.ext (by (repeat (first | (with_reducible exact Ext.refl _) | (with_reducible assumption) | (with_reducible apply Ext.alloc) | (with_reducible apply Ext.drew) | (with_reducible apply Ext.drewN) | ((with_reducible refine Ext.setCell ?_ ?_ _); rotate_left; (focus (first | (simp; done) | (simp; omega) | omega))) | (with_reducible refine Ext.trans ?_ (by assumption))))))).mono ?_; rintro e wd ⟨cd, fd, rfl, OCd, OFd, Fd⟩; have Dd : Ext w12 wd := (by (repeat (first | (with_reducible exact Ext.refl _) | (with_reducible assumption) | (with_reducible apply Ext.alloc) | (with_reducible apply Ext.drew) | (with_reducible apply Ext.drewN) | ((with_reducible refine Ext.setCell ?_ ?_ _); rotate_left; (focus (first | (simp; done) | (simp; omega) | omega))) | (with_reducible refine Ext.trans ?_ (by assumption))))); obtain ⟨Ad, kd, rfl, _, _⟩ := Own.rd OCd Cls.len; obtain ⟨Bd, jd, rfl, _, _⟩ := Own.rd OFd Flt.len; have HCd := Lib.hid (Own.mono (base' := w12.heap.size) OCd (by first | omega | (simp; omega))); have HFd := Lib.hid (Own.mono (base' := w12.heap.size) OFd (by first | omega | (simp; omega))); clear OCd OFd; obtain ⟨q0, q1, q2, q3, _⟩ := BQ.out.ext (D12.trans Dd); obtain ⟨y0, y1, y2, y3, y4, y5, y6, y7, _⟩ := bcC (BY.out.ext (D12.trans Dd)); have hszwd := Ext.size Dd; have nwd0 : ¬ wd.heap.size = w.heap.size := (by omega); have nwd1 : ¬ wd.heap.size = w.heap.size + 1 := (by omega); (first | (have TB : Blk wd wb.heap.size 32 #[.string ⟨#[]⟩, .slice none 0 0, .slice none 0 0, .int .i64 0] := Blk.ext (w := wb.alloc (.cells #[.string ⟨#[]⟩, .slice none 0 0, .slice none 0 0, .int .i64 0] 32)) (Blk.new wb 32 #[.string ⟨#[]⟩, .slice none 0 0, .slice none 0 0, .int .i64 0]) (by with_reducible assumption); obtain ⟨⟨z0, z1, z2, z3⟩, ⟨h0, h1, h2, h3⟩, _⟩ := C4.blk TB) | (have TB : Blk wd wa.heap.size 32 #[.string ⟨#[]⟩, .slice none 0 0, .slice none 0 0, .int .i64 0] := Blk.ext (w := wb) (Blk.ext (w := wa.alloc (.cells #[.string ⟨#[]⟩, .slice none 0 0, .slice none 0 0, .int .i64 0] 32)) (Blk.new wa 32 #[.string ⟨#[]⟩, .slice none 0 0, .slice none 0 0, .int .i64 0]) (by with_reducible assumption)) (by with_reducible assumption); obtain ⟨⟨z0, z1, z2, z3⟩, ⟨h0, h1, h2, h3⟩, _⟩ := C4.blk TB) | (have TB : Blk wd w12.heap.size 32 #[.string ⟨#[]⟩, .slice none 0 0, .slice none 0 0, .int .i64 0] := Blk.ext (w := wb) (Blk.ext (w := wa) (Blk.ext (w := (w12.alloc (.cells #[.string ⟨#[]⟩, .slice none 0 0, .slice none 0 0, .int .i64 0] 32)).drew) (Blk.drew (Blk.new w12 32 #[.string ⟨#[]⟩, .slice none 0 0, .slice none 0 0, .int .i64 0])) (by with_reducible assumption)) (by with_reducible assumption)) (by with_reducible assumption); obtain ⟨⟨z0, z1, z2, z3⟩, ⟨h0, h1, h2, h3⟩, _⟩ := C4.blk TB) | skip)))
      · go_wp2_with fail
        go_meet
        exact ⟨wd.heap.size, Ad, kd, Bd, jd, rfl, rfl, Lib.hid (Blk.new _ _ _), Lib.hid (Own.ext HCd.out ((Ext.refl _).alloc _)), Lib.hid (Own.ext HFd.out ((Ext.refl _).alloc _)), by omega, Dd.alloc _⟩
      all_goals
        go_wp2_with fail
        go_meet
        exact ⟨_, Ad, kd, Bd, jd, rfl, rfl, Lib.hid (Blk.set4 TB _ _ _ _), Lib.hid ((((HCd.out.setOff (Own.ne_blk HCd.out TB (by decide)) 0 _).setOff (Own.ne_blk HCd.out TB (by decide)) 1 _).setOff (Own.ne_blk HCd.out TB (by decide)) 2 _).setOff (Own.ne_blk HCd.out TB (by decide)) 3 _), Lib.hid ((((HFd.out.setOff (Own.ne_blk HFd.out TB (by decide)) 0 _).setOff (Own.ne_blk HFd.out TB (by decide)) 1 _).setOff (Own.ne_blk HFd.out TB (by decide)) 2 _).setOff (Own.ne_blk HFd.out TB (by decide)) 3 _), by omega, by (repeat (first | (with_reducible exact Ext.refl _) | (with_reducible assumption) | (with_reducible apply Ext.alloc) | (with_reducible apply Ext.drew) | (with_reducible apply Ext.drewN) | ((with_reducible refine Ext.setCell ?_ ?_ _); rotate_left; (focus (first | (simp; done) | (simp; omega) | omega))) | (with_reducible refine Ext.trans ?_ (by assumption))))⟩
    obtain ⟨g14, A14, k14, B14, j14, rfl, rfl, Z14, V14, G14, hg14, F14⟩ := hcut
    obtain ⟨w14, rfl⟩ : ∃ x : World, x = wc := ⟨_, rfl⟩
    have X14 := Lib.hid (Box.of_blk Z14.out)
    clear q0 q1 q2 q3 y0 y1 y2 y3 y4 y5 y6 y7
    have H14 := F12.trans F14
    obtain ⟨x0, x1, x2, x3, _⟩ := X14.out
    obtain ⟨q0, q1, q2, q3, _⟩ := X3m.out.ext H14
    go_wp2_with fail
    clear q0 q1 q2 q3 x0 x1 x2 x3
    refine (laws_eqConfig_any R.name _ _ _ _ R.dfl R.cls R.flt _ (Own.rd V14.out Cls.len) (Own.rd G14.out Flt.len) (Own.rd (C3m.out.ext H14) Cls.len) (Own.rd (F3m.out.ext H14) Flt.len) (by omega) (by omega)).mono ?_
    rintro e w15 ⟨rfl, F15⟩
    have H15 := H14.trans F15
    obtain ⟨x0, x1, x2, x3, _⟩ := X5m.out.ext H15
    go_wp2_with fail
    clear x0 x1 x2 x3
    refine (laws_heldConfig_any R.name _ _ R.dfl R.cls.length R.flt.length _ ((Own.rd HM.out Cls.len).ext H15) ((Own.rd HG.out Flt.len).ext H15) (by omega) (by omega)).mono ?_
    rintro e w16 ⟨rfl, F16⟩
    go_wp2
    go_ret
    exact ⟨rfl, E0.trans ((D11.trans H15).trans F16)⟩

theorem own : ownKnob Tryd.prog.godebug = none := by kernel_rfl
theorem laidOut : laidOutB Tryd.prog = true := by kernel_rfl
set_option maxRecDepth 100000 in
theorem lifted (os : Os) (started : os.Started) (H : Type) (enc : TypeId × Value → H) :
    ReturnsInHanded {} Tryd.checked os 3 .any (fun w args => (Rows.fnExactAddClassSpec.pre enc Tryd.prog Tryd.f3 Rows.fnExactAddClassRow.domain false w args ∧ laidMetH Tryd.prog Rows.fnExactAddClassRow.laid w) ∧ sizedMet enc Tryd.prog Tryd.f3 (OpenSpec.ofChange Rows.fnExactAddClassSpec) false w args)
      (Rows.fnExactAddClassSpec.post enc Tryd.prog Tryd.f3 false true false false) := by
  refine returnsInHanded_of_change_and (C := Tryd.checked) (X := fun w _ => laidMetH Tryd.prog Rows.fnExactAddClassRow.laid w) (fun _ _ _ hh h => h.of_heap hh) own started (by kernel_rfl) Tryd.func3
    (ChangeSpec.witness_shaped (enc := enc) (C := Tryd.checked) (os := os) (X := fun w _ => laidMetH Tryd.prog Rows.fnExactAddClassRow.laid w) false (World.doorLaid Tryd.prog 400 os) #[.agg #[.string ⟨#[]⟩, .slice none 0 0, .slice none 0 0, .int .i64 0], .agg #[.int .i64 0, .int .i64 0, .int .i64 0, .int .i64 0, .int .i64 0, .int .i64 0, .int .i64 0, .int .i64 0]] 8 rfl (World.shaped_of_RefB (by kernel_rfl) (by kernel_rfl)) (by kernel_rfl) (by kernel_rfl) (by kernel_rfl) (door_met os _)) ?_
  intro W base args ds gs before hval0 hW hcnd _ hL _
  have hval : ∀ (j : Nat) t v, Tryd.f3.params[j]? = some t → args[j]? = some v → Value.okWide Tryd.prog W .any base t v := hval0
  have hW' := hW
  obtain ⟨p, q, hA0, hV0, hbe, hfz, hnd⟩ := hW
  have hA : DataW.TrodAll enc Tryd.prog W 0 (fun _ => true) true Tryd.f3.params.toList args.toList ds p := hA0
  have hAk := hA
  have hV : DataW.TrodVars enc Tryd.prog W (fun _ => true) Rows.fnExactAddClassSpec.vars gs q := hV0
  have hK : Keys W := keys_of_laid hL
  rw [Tryd.params3] at hA hval
  obtain ⟨v0, vs0, d0, ds0, p0, q0, hargs, rfl, rfl, h0, r0⟩ := trodAll_cons hA
  obtain ⟨v1, vs1, d1, ds1, p1, q1, rfl, rfl, rfl, h1, r1⟩ := trodAll_cons r0
  obtain ⟨rfl, rfl, rfl⟩ := trodAll_nil r1
  obtain rfl : args = #[v0, v1] := by cases args; simp_all
  simp only [List.append_nil] at hW' hAk hbe
  refine Calls.mono (R := fun e W' => e = .returned (.bool true) ∧ Ext W W') ?_ (fun e W' hh => ?_)
  rotate_left
  · obtain ⟨rfl, hx⟩ := hh
    obtain ⟨hgs, hvars⟩ := vars_stay hL hV hx
    subst hgs
    exact ⟨_, rfl, law_postV laidOut hW' hbe hAk (of_decide_eq_true (by kernel_rfl)) rfl Tryd.underlying4 rfl rfl rfl (fun sp => hvars sp) hx⟩
  clear hA0 hval0 hW' hAk hfz hnd hV hV0 hL
  obtain ⟨c1_0, c1_1, c1_2, c1_3, c1_4, c1_5, c1_6, c1_7, y1_0, y1_1, y1_2, y1_3, y1_4, y1_5, y1_6, y1_7, m1, rfl, rfl, rfl, g1_0, g1_1, g1_2, g1_3, g1_4, g1_5, g1_6, g1_7⟩ := open_agg8 Tryd.underlying27 (by kernel_rfl) (by kernel_rfl) (hval 1 27 v1 rfl rfl) h1
  obtain ⟨a1_0, e1_0, _, wf1_0⟩ := DataW.trod_int Tryd.underlying3 g1_0
  obtain rfl : c1_0 = .int .i64 a1_0 := by simpa using e1_0
  obtain ⟨a1_1, e1_1, _, wf1_1⟩ := DataW.trod_int Tryd.underlying3 g1_1
  obtain rfl : c1_1 = .int .i64 a1_1 := by simpa using e1_1
  obtain ⟨a1_2, e1_2, _, wf1_2⟩ := DataW.trod_int Tryd.underlying3 g1_2
  obtain rfl : c1_2 = .int .i64 a1_2 := by simpa using e1_2
  obtain ⟨a1_3, e1_3, _, wf1_3⟩ := DataW.trod_int Tryd.underlying3 g1_3
  obtain rfl : c1_3 = .int .i64 a1_3 := by simpa using e1_3
  obtain ⟨a1_4, e1_4, _, wf1_4⟩ := DataW.trod_int Tryd.underlying3 g1_4
  obtain rfl : c1_4 = .int .i64 a1_4 := by simpa using e1_4
  obtain ⟨a1_5, e1_5, _, wf1_5⟩ := DataW.trod_int Tryd.underlying3 g1_5
  obtain rfl : c1_5 = .int .i64 a1_5 := by simpa using e1_5
  obtain ⟨a1_6, e1_6, _, wf1_6⟩ := DataW.trod_int Tryd.underlying3 g1_6
  obtain rfl : c1_6 = .int .i64 a1_6 := by simpa using e1_6
  obtain ⟨a1_7, e1_7, _, wf1_7⟩ := DataW.trod_int Tryd.underlying3 g1_7
  obtain rfl : c1_7 = .int .i64 a1_7 := by simpa using e1_7
  exact walk (w := W) hK v0 (hval 0 25 v0 rfl rfl) h0 ⟨a1_0, a1_1, a1_2, a1_3, a1_4, a1_5, a1_6, a1_7⟩

theorem over : Rows.fnExactAddClassRow.holds Tryd.pinned (OpenSpec.ofChange Rows.fnExactAddClassSpec) :=
  OpenClaim.holds_of_wide 3 Tryd.f3 rfl rfl rfl rfl rfl rfl rfl ⟨rfl, rfl, rfl, rfl, rfl⟩ rfl rfl rfl rfl rfl (by kernel_rfl) Tryd.func3 (by kernel_rfl)
    (of_decide_eq_true (by kernel_rfl)) (by unfold Func.isWrapper; first | (rw [if_pos (by decide +kernel)]; kernel_rfl) | (rw [if_neg (by decide +kernel)]; exact ⟨rfl, rfl⟩))
    (fun os started H enc _ => lifted os started H enc)

theorem card : Claim7.holds Tryd.pinned (.plain (OpenSpec.ofChange Rows.fnExactAddClassSpec)) Rows.fnExactAddClassCard :=
  Claim7.holds_tied_plain_at .later [] [.data] true Rows.fnExactAddClassCard.stood.harness false
    over (fun _ h => by cases h) (by kernel_rfl) (fun _ h => by cases h) fnExactAddClass_row_tie rfl ⟨rfl, rfl⟩ (by kernel_rfl) rfl
    (fun f fn hf hfn => by
      obtain rfl : f = 3 := Option.some.inj ((show Tryd.prog.funcNamed Rows.fnExactAddClassRow.func = some 3 by kernel_rfl).symm.trans hf) |>.symm
      obtain rfl : fn = Tryd.f3 := (Option.some.inj (Tryd.func3.symm.trans hfn)).symm
      exact ⟨by kernel_rfl, fun j t ht => by
        rw [Tryd.params3] at ht
        match j, ht with
        | 0, ht => obtain rfl : 25 = t := (by simpa using ht); exact (show Tryd.prog.wantsStandIn 25 = false by kernel_rfl)
        | 1, ht => obtain rfl : 27 = t := (by simpa using ht); exact (show Tryd.prog.wantsStandIn 27 = false by kernel_rfl)
        | j + 2, ht => simp at ht⟩)
    (by kernel_rfl)
end Go.Proofs.YtbbenppmfmphfaaDoor.LAddClass
namespace Go.Proofs.YtbbenppmfmphfaaDoor
theorem provedFnExactAddClass : Rows.FnExactAddClassCardSaid := LAddClass.card
#print axioms provedFnExactAddClass
end Go.Proofs.YtbbenppmfmphfaaDoor
