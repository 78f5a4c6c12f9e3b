/-
  DERIVED. GIVEN WITH THE SEED: THE CARDS: each row of YtjjflfoecdnegaaDoorRows.lean that lists a variable, with what it lists TIED to the program's text (the seventh form; the later family's looks); each row that meets fmt, with fmt's text TOLD by the authors' own Lean function (tested against real Go, not proved from fmt's source: count such statements apart). THE CARD IS WHAT COUNTS. Prove the row's statement (the work); the ties are given (YtjjflfoecdnegaaDoorTie.lean); close each card by the builder's one call (the guide's Derived/Test/ToyasCard.lean, 'card_holds'). Laid BY PROGRAM, IN A SANDBOX (cutbox-door.mjs). By AI agents, Wed Nov 11 2026. No macro, syntax, notation, axiom, sorry.
-/
import Derived.Test.YtjjflfoecdnegaaDoorRows
import GoSem.ClaimSeven
namespace Go.Proofs.YtjjflfoecdnegaaDoor
namespace Rows

/-- THE TIED CARD OF 'laws.FnExactChildClasses'. -/
def fnExactChildClassesCard : Claim7 := { stood := { row := fnExactChildClassesRow, standIns := [], harness := (true, "6bfb4097944caed3df86a9e6e0c8844ec14a5e0c7e1a8c1acec2c560908efb6d"), looks := false }, kinds := [], alts := [], laidByText := true, laidKinds := [.data], laidTests := true, laidLooks := .later }
def FnExactChildClassesCardSaid : Prop := Claim7.holds Tryd.pinned (.plain (OpenSpec.ofChange fnExactChildClassesSpec)) fnExactChildClassesCard

/-- THE TIED CARD OF 'laws.FnExactWayUp'. -/
def fnExactWayUpCard : Claim7 := { stood := { row := fnExactWayUpRow, standIns := [], harness := (true, "6bfb4097944caed3df86a9e6e0c8844ec14a5e0c7e1a8c1acec2c560908efb6d"), looks := false }, kinds := [], alts := [], laidByText := true, laidKinds := [.data], laidTests := true, laidLooks := .later }
def FnExactWayUpCardSaid : Prop := Claim7.holds Tryd.pinned (.plain (OpenSpec.ofChange fnExactWayUpSpec)) fnExactWayUpCard

/-- THE TIED CARD OF 'laws.FnExactLeavesOf'. -/
def fnExactLeavesOfCard : Claim7 := { stood := { row := fnExactLeavesOfRow, standIns := [], harness := (true, "6bfb4097944caed3df86a9e6e0c8844ec14a5e0c7e1a8c1acec2c560908efb6d"), looks := false }, kinds := [], alts := [], laidByText := true, laidKinds := [.data], laidTests := true, laidLooks := .later }
def FnExactLeavesOfCardSaid : Prop := Claim7.holds Tryd.pinned (.plain (OpenSpec.ofChange fnExactLeavesOfSpec)) fnExactLeavesOfCard

/-- THE TIED CARD OF 'laws.FnExactBrokenConditions'. -/
def fnExactBrokenConditionsCard : Claim7 := { stood := { row := fnExactBrokenConditionsRow, standIns := [], harness := (true, "6bfb4097944caed3df86a9e6e0c8844ec14a5e0c7e1a8c1acec2c560908efb6d"), looks := false }, kinds := [], alts := [], laidByText := true, laidKinds := [.data], laidTests := true, laidLooks := .later }
def FnExactBrokenConditionsCardSaid : Prop := Claim7.holds Tryd.pinned (.plain (OpenSpec.ofChange fnExactBrokenConditionsSpec)) fnExactBrokenConditionsCard

/-- THE TIED CARD OF 'laws.FnExactWitnessFor'. -/
def fnExactWitnessForCard : Claim7 := { stood := { row := fnExactWitnessForRow, standIns := [], harness := (true, "6bfb4097944caed3df86a9e6e0c8844ec14a5e0c7e1a8c1acec2c560908efb6d"), looks := false }, kinds := [], alts := [], laidByText := true, laidKinds := [.data], laidTests := true, laidLooks := .later }
def FnExactWitnessForCardSaid : Prop := Claim7.holds Tryd.pinned (.plain (OpenSpec.ofChange fnExactWitnessForSpec)) fnExactWitnessForCard

/-- THE TIED CARD OF 'laws.FnExactIdleFilters'. -/
def fnExactIdleFiltersCard : Claim7 := { stood := { row := fnExactIdleFiltersRow, standIns := [], harness := (true, "6bfb4097944caed3df86a9e6e0c8844ec14a5e0c7e1a8c1acec2c560908efb6d"), looks := false }, kinds := [], alts := [], laidByText := true, laidKinds := [.data], laidTests := true, laidLooks := .later }
def FnExactIdleFiltersCardSaid : Prop := Claim7.holds Tryd.pinned (.plain (OpenSpec.ofChange fnExactIdleFiltersSpec)) fnExactIdleFiltersCard

/-- THE SECOND FORM's CARD OF 'laws.FnExactChildClasses'. -/
def fnExactChildClassesUptoCard : Claim7 := { stood := { row := fnExactChildClassesUptoRow, standIns := [], harness := (true, "6bfb4097944caed3df86a9e6e0c8844ec14a5e0c7e1a8c1acec2c560908efb6d"), looks := false }, kinds := [], alts := [], laidByText := true, laidKinds := [.data], laidTests := true, laidLooks := .later }
def FnExactChildClassesUptoCardSaid : Prop := Claim7.holds Tryd.pinned (.plain (OpenSpec.upto fnExactChildClassesSpec)) fnExactChildClassesUptoCard

/-- THE SECOND FORM's CARD OF 'laws.FnExactWayUp'. -/
def fnExactWayUpUptoCard : Claim7 := { stood := { row := fnExactWayUpUptoRow, standIns := [], harness := (true, "6bfb4097944caed3df86a9e6e0c8844ec14a5e0c7e1a8c1acec2c560908efb6d"), looks := false }, kinds := [], alts := [], laidByText := true, laidKinds := [.data], laidTests := true, laidLooks := .later }
def FnExactWayUpUptoCardSaid : Prop := Claim7.holds Tryd.pinned (.plain (OpenSpec.upto fnExactWayUpSpec)) fnExactWayUpUptoCard

/-- THE SECOND FORM's CARD OF 'laws.FnExactLeavesOf'. -/
def fnExactLeavesOfUptoCard : Claim7 := { stood := { row := fnExactLeavesOfUptoRow, standIns := [], harness := (true, "6bfb4097944caed3df86a9e6e0c8844ec14a5e0c7e1a8c1acec2c560908efb6d"), looks := false }, kinds := [], alts := [], laidByText := true, laidKinds := [.data], laidTests := true, laidLooks := .later }
def FnExactLeavesOfUptoCardSaid : Prop := Claim7.holds Tryd.pinned (.plain (OpenSpec.upto fnExactLeavesOfSpec)) fnExactLeavesOfUptoCard

/-- THE SECOND FORM's CARD OF 'laws.FnExactBrokenConditions'. -/
def fnExactBrokenConditionsUptoCard : Claim7 := { stood := { row := fnExactBrokenConditionsUptoRow, standIns := [], harness := (true, "6bfb4097944caed3df86a9e6e0c8844ec14a5e0c7e1a8c1acec2c560908efb6d"), looks := false }, kinds := [], alts := [], laidByText := true, laidKinds := [.data], laidTests := true, laidLooks := .later }
def FnExactBrokenConditionsUptoCardSaid : Prop := Claim7.holds Tryd.pinned (.plain (OpenSpec.upto fnExactBrokenConditionsSpec)) fnExactBrokenConditionsUptoCard

/-- THE SECOND FORM's CARD OF 'laws.FnExactWitnessFor'. -/
def fnExactWitnessForUptoCard : Claim7 := { stood := { row := fnExactWitnessForUptoRow, standIns := [], harness := (true, "6bfb4097944caed3df86a9e6e0c8844ec14a5e0c7e1a8c1acec2c560908efb6d"), looks := false }, kinds := [], alts := [], laidByText := true, laidKinds := [.data], laidTests := true, laidLooks := .later }
def FnExactWitnessForUptoCardSaid : Prop := Claim7.holds Tryd.pinned (.plain (OpenSpec.upto fnExactWitnessForSpec)) fnExactWitnessForUptoCard

/-- THE SECOND FORM's CARD OF 'laws.FnExactIdleFilters'. -/
def fnExactIdleFiltersUptoCard : Claim7 := { stood := { row := fnExactIdleFiltersUptoRow, standIns := [], harness := (true, "6bfb4097944caed3df86a9e6e0c8844ec14a5e0c7e1a8c1acec2c560908efb6d"), looks := false }, kinds := [], alts := [], laidByText := true, laidKinds := [.data], laidTests := true, laidLooks := .later }
def FnExactIdleFiltersUptoCardSaid : Prop := Claim7.holds Tryd.pinned (.plain (OpenSpec.upto fnExactIdleFiltersSpec)) fnExactIdleFiltersUptoCard
end Rows
end Go.Proofs.YtjjflfoecdnegaaDoor
