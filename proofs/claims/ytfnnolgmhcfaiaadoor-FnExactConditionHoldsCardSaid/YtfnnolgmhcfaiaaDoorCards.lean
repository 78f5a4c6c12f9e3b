/-
  DERIVED. GIVEN WITH THE SEED: THE CARDS: each row of YtfnnolgmhcfaiaaDoorRows.lean that lists a variable, with what it lists TIED to the program's text (the seventh form; the later family's looks); each row that meets fmt, with fmt's text TOLD by the authors' own Lean function (tested against real Go, not proved from fmt's source: count such statements apart). THE CARD IS WHAT COUNTS. Prove the row's statement (the work); the ties are given (YtfnnolgmhcfaiaaDoorTie.lean); close each card by the builder's one call (the guide's Derived/Test/ToyasCard.lean, 'card_holds'). Laid BY PROGRAM, IN A SANDBOX (cutbox-door.mjs). By AI agents, Wed Nov 11 2026. No macro, syntax, notation, axiom, sorry.
-/
import Derived.Test.YtfnnolgmhcfaiaaDoorRows
import GoSem.ClaimSeven
namespace Go.Proofs.YtfnnolgmhcfaiaaDoor
namespace Rows

/-- THE TIED CARD OF 'laws.FnExactIsConfig'. -/
def fnExactIsConfigCard : Claim7 := { stood := { row := fnExactIsConfigRow, standIns := [], harness := (true, "27d7589187ea708670288cba0019fb4fd6c620b6c0868c0d0f1ce50e5d0e4bdf"), looks := false }, kinds := [], alts := [], laidByText := true, laidKinds := [.data], laidTests := true, laidLooks := .later }
def FnExactIsConfigCardSaid : Prop := Claim7.holds Tryd.pinned (.plain (OpenSpec.ofChange fnExactIsConfigSpec)) fnExactIsConfigCard

/-- THE TIED CARD OF 'laws.FnExactFindClass'. -/
def fnExactFindClassCard : Claim7 := { stood := { row := fnExactFindClassRow, standIns := [], harness := (true, "27d7589187ea708670288cba0019fb4fd6c620b6c0868c0d0f1ce50e5d0e4bdf"), looks := false }, kinds := [], alts := [], laidByText := true, laidKinds := [.data], laidTests := true, laidLooks := .later }
def FnExactFindClassCardSaid : Prop := Claim7.holds Tryd.pinned (.plain (OpenSpec.ofChange fnExactFindClassSpec)) fnExactFindClassCard

/-- THE TIED CARD OF 'laws.FnExactSpareRate'. -/
def fnExactSpareRateCard : Claim7 := { stood := { row := fnExactSpareRateRow, standIns := [], harness := (true, "27d7589187ea708670288cba0019fb4fd6c620b6c0868c0d0f1ce50e5d0e4bdf"), looks := false }, kinds := [], alts := [], laidByText := true, laidKinds := [.data], laidTests := true, laidLooks := .later }
def FnExactSpareRateCardSaid : Prop := Claim7.holds Tryd.pinned (.plain (OpenSpec.ofChange fnExactSpareRateSpec)) fnExactSpareRateCard

/-- THE TIED CARD OF 'laws.FnExactTopOf'. -/
def fnExactTopOfCard : Claim7 := { stood := { row := fnExactTopOfRow, standIns := [], harness := (true, "27d7589187ea708670288cba0019fb4fd6c620b6c0868c0d0f1ce50e5d0e4bdf"), looks := false }, kinds := [], alts := [], laidByText := true, laidKinds := [.data], laidTests := true, laidLooks := .later }
def FnExactTopOfCardSaid : Prop := Claim7.holds Tryd.pinned (.plain (OpenSpec.ofChange fnExactTopOfSpec)) fnExactTopOfCard

/-- THE TIED CARD OF 'laws.FnExactIsBelow'. -/
def fnExactIsBelowCard : Claim7 := { stood := { row := fnExactIsBelowRow, standIns := [], harness := (true, "27d7589187ea708670288cba0019fb4fd6c620b6c0868c0d0f1ce50e5d0e4bdf"), looks := false }, kinds := [], alts := [], laidByText := true, laidKinds := [.data], laidTests := true, laidLooks := .later }
def FnExactIsBelowCardSaid : Prop := Claim7.holds Tryd.pinned (.plain (OpenSpec.ofChange fnExactIsBelowSpec)) fnExactIsBelowCard

/-- THE TIED CARD OF 'laws.FnExactConditionHolds'. -/
def fnExactConditionHoldsCard : Claim7 := { stood := { row := fnExactConditionHoldsRow, standIns := [], harness := (true, "27d7589187ea708670288cba0019fb4fd6c620b6c0868c0d0f1ce50e5d0e4bdf"), looks := false }, kinds := [], alts := [], laidByText := true, laidKinds := [.data], laidTests := true, laidLooks := .later }
def FnExactConditionHoldsCardSaid : Prop := Claim7.holds Tryd.pinned (.plain (OpenSpec.ofChange fnExactConditionHoldsSpec)) fnExactConditionHoldsCard

/-- THE SECOND FORM's CARD OF 'laws.FnExactIsConfig'. -/
def fnExactIsConfigUptoCard : Claim7 := { stood := { row := fnExactIsConfigUptoRow, standIns := [], harness := (true, "27d7589187ea708670288cba0019fb4fd6c620b6c0868c0d0f1ce50e5d0e4bdf"), looks := false }, kinds := [], alts := [], laidByText := true, laidKinds := [.data], laidTests := true, laidLooks := .later }
def FnExactIsConfigUptoCardSaid : Prop := Claim7.holds Tryd.pinned (.plain (OpenSpec.upto fnExactIsConfigSpec)) fnExactIsConfigUptoCard

/-- THE SECOND FORM's CARD OF 'laws.FnExactFindClass'. -/
def fnExactFindClassUptoCard : Claim7 := { stood := { row := fnExactFindClassUptoRow, standIns := [], harness := (true, "27d7589187ea708670288cba0019fb4fd6c620b6c0868c0d0f1ce50e5d0e4bdf"), looks := false }, kinds := [], alts := [], laidByText := true, laidKinds := [.data], laidTests := true, laidLooks := .later }
def FnExactFindClassUptoCardSaid : Prop := Claim7.holds Tryd.pinned (.plain (OpenSpec.upto fnExactFindClassSpec)) fnExactFindClassUptoCard

/-- THE SECOND FORM's CARD OF 'laws.FnExactSpareRate'. -/
def fnExactSpareRateUptoCard : Claim7 := { stood := { row := fnExactSpareRateUptoRow, standIns := [], harness := (true, "27d7589187ea708670288cba0019fb4fd6c620b6c0868c0d0f1ce50e5d0e4bdf"), looks := false }, kinds := [], alts := [], laidByText := true, laidKinds := [.data], laidTests := true, laidLooks := .later }
def FnExactSpareRateUptoCardSaid : Prop := Claim7.holds Tryd.pinned (.plain (OpenSpec.upto fnExactSpareRateSpec)) fnExactSpareRateUptoCard

/-- THE SECOND FORM's CARD OF 'laws.FnExactTopOf'. -/
def fnExactTopOfUptoCard : Claim7 := { stood := { row := fnExactTopOfUptoRow, standIns := [], harness := (true, "27d7589187ea708670288cba0019fb4fd6c620b6c0868c0d0f1ce50e5d0e4bdf"), looks := false }, kinds := [], alts := [], laidByText := true, laidKinds := [.data], laidTests := true, laidLooks := .later }
def FnExactTopOfUptoCardSaid : Prop := Claim7.holds Tryd.pinned (.plain (OpenSpec.upto fnExactTopOfSpec)) fnExactTopOfUptoCard

/-- THE SECOND FORM's CARD OF 'laws.FnExactIsBelow'. -/
def fnExactIsBelowUptoCard : Claim7 := { stood := { row := fnExactIsBelowUptoRow, standIns := [], harness := (true, "27d7589187ea708670288cba0019fb4fd6c620b6c0868c0d0f1ce50e5d0e4bdf"), looks := false }, kinds := [], alts := [], laidByText := true, laidKinds := [.data], laidTests := true, laidLooks := .later }
def FnExactIsBelowUptoCardSaid : Prop := Claim7.holds Tryd.pinned (.plain (OpenSpec.upto fnExactIsBelowSpec)) fnExactIsBelowUptoCard

/-- THE SECOND FORM's CARD OF 'laws.FnExactConditionHolds'. -/
def fnExactConditionHoldsUptoCard : Claim7 := { stood := { row := fnExactConditionHoldsUptoRow, standIns := [], harness := (true, "27d7589187ea708670288cba0019fb4fd6c620b6c0868c0d0f1ce50e5d0e4bdf"), looks := false }, kinds := [], alts := [], laidByText := true, laidKinds := [.data], laidTests := true, laidLooks := .later }
def FnExactConditionHoldsUptoCardSaid : Prop := Claim7.holds Tryd.pinned (.plain (OpenSpec.upto fnExactConditionHoldsSpec)) fnExactConditionHoldsUptoCard
end Rows
end Go.Proofs.YtfnnolgmhcfaiaaDoor
