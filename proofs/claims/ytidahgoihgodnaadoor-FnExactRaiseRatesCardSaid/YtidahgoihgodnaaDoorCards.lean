/-
  DERIVED. GIVEN WITH THE SEED: THE CARDS: each row of YtidahgoihgodnaaDoorRows.lean that lists a variable, with what it lists TIED to the program's text (the seventh form; the later family's looks); each row that meets fmt, with fmt's text TOLD by the authors' own Lean function (tested against real Go, not proved from fmt's source: count such statements apart). THE CARD IS WHAT COUNTS. Prove the row's statement (the work); the ties are given (YtidahgoihgodnaaDoorTie.lean); close each card by the builder's one call (the guide's Derived/Test/ToyasCard.lean, 'card_holds'). Laid BY PROGRAM, IN A SANDBOX (cutbox-door.mjs). By AI agents, Wed Nov 11 2026. No macro, syntax, notation, axiom, sorry.
-/
import Derived.Test.YtidahgoihgodnaaDoorRows
import GoSem.ClaimSeven
namespace Go.Proofs.YtidahgoihgodnaaDoor
namespace Rows

/-- THE TIED CARD OF 'laws.FnExactSetLimit'. -/
def fnExactSetLimitCard : Claim7 := { stood := { row := fnExactSetLimitRow, standIns := [], harness := (true, "b300fe269b11a082c9efa652dae1ca61878c3d57ff6064ca95e10f308831b819"), looks := false }, kinds := [], alts := [], laidByText := true, laidKinds := [.data], laidTests := true, laidLooks := .later }
def FnExactSetLimitCardSaid : Prop := Claim7.holds Tryd.pinned (.plain (OpenSpec.ofChange fnExactSetLimitSpec)) fnExactSetLimitCard

/-- THE TIED CARD OF 'laws.FnExactDropClass'. -/
def fnExactDropClassCard : Claim7 := { stood := { row := fnExactDropClassRow, standIns := [], harness := (true, "b300fe269b11a082c9efa652dae1ca61878c3d57ff6064ca95e10f308831b819"), looks := false }, kinds := [], alts := [], laidByText := true, laidKinds := [.data], laidTests := true, laidLooks := .later }
def FnExactDropClassCardSaid : Prop := Claim7.holds Tryd.pinned (.plain (OpenSpec.ofChange fnExactDropClassSpec)) fnExactDropClassCard

/-- THE TIED CARD OF 'laws.FnExactRaiseRates'. -/
def fnExactRaiseRatesCard : Claim7 := { stood := { row := fnExactRaiseRatesRow, standIns := [], harness := (true, "b300fe269b11a082c9efa652dae1ca61878c3d57ff6064ca95e10f308831b819"), looks := false }, kinds := [], alts := [], laidByText := true, laidKinds := [.data], laidTests := true, laidLooks := .later }
def FnExactRaiseRatesCardSaid : Prop := Claim7.holds Tryd.pinned (.plain (OpenSpec.ofChange fnExactRaiseRatesSpec)) fnExactRaiseRatesCard

/-- THE SECOND FORM's CARD OF 'laws.FnExactSetLimit'. -/
def fnExactSetLimitUptoCard : Claim7 := { stood := { row := fnExactSetLimitUptoRow, standIns := [], harness := (true, "b300fe269b11a082c9efa652dae1ca61878c3d57ff6064ca95e10f308831b819"), looks := false }, kinds := [], alts := [], laidByText := true, laidKinds := [.data], laidTests := true, laidLooks := .later }
def FnExactSetLimitUptoCardSaid : Prop := Claim7.holds Tryd.pinned (.plain (OpenSpec.upto fnExactSetLimitSpec)) fnExactSetLimitUptoCard

/-- THE SECOND FORM's CARD OF 'laws.FnExactDropClass'. -/
def fnExactDropClassUptoCard : Claim7 := { stood := { row := fnExactDropClassUptoRow, standIns := [], harness := (true, "b300fe269b11a082c9efa652dae1ca61878c3d57ff6064ca95e10f308831b819"), looks := false }, kinds := [], alts := [], laidByText := true, laidKinds := [.data], laidTests := true, laidLooks := .later }
def FnExactDropClassUptoCardSaid : Prop := Claim7.holds Tryd.pinned (.plain (OpenSpec.upto fnExactDropClassSpec)) fnExactDropClassUptoCard

/-- THE SECOND FORM's CARD OF 'laws.FnExactRaiseRates'. -/
def fnExactRaiseRatesUptoCard : Claim7 := { stood := { row := fnExactRaiseRatesUptoRow, standIns := [], harness := (true, "b300fe269b11a082c9efa652dae1ca61878c3d57ff6064ca95e10f308831b819"), looks := false }, kinds := [], alts := [], laidByText := true, laidKinds := [.data], laidTests := true, laidLooks := .later }
def FnExactRaiseRatesUptoCardSaid : Prop := Claim7.holds Tryd.pinned (.plain (OpenSpec.upto fnExactRaiseRatesSpec)) fnExactRaiseRatesUptoCard
end Rows
end Go.Proofs.YtidahgoihgodnaaDoor
